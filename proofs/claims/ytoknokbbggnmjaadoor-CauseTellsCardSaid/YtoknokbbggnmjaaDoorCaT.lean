/-
  The texts of package cause's errors: the walks.
-/
import Derived.Test.YtoknokbbggnmjaaDoorCaG
import Derived.Test.YtoknokbbggnmjaaDoorSh
import Derived.Lib.Join
namespace Go.Proofs.YtoknokbbggnmjaaDoor.Ca
set_option linter.unusedSimpArgs false
open Go Go.RowKit Go.Sl Go.Extern.Stop Go.Stop Go.Extern
set_option linter.unusedVariables false

/-- A string out of its bytes. -/
abbrev str (l : List UInt8) : Value := .string ⟨l.toArray⟩
def dg (n : Int) : List UInt8 := [48 + UInt8.ofNat n.toNat]
theorem ba_app (a b : Array UInt8) : (⟨a⟩ : ByteArray) ++ ⟨b⟩ = ⟨a ++ b⟩ := by
  apply ByteArray.ext; simp
def tErrno : List UInt8 := [101, 114, 114, 110, 111, 32]
def tNode : List UInt8 := [110, 111, 100, 101, 32]
def tStripe : List UInt8 := [115, 116, 114, 105, 112, 101, 32]
def tColon : List UInt8 := [58, 32]
def tSemi : List UInt8 := [59, 32]
mutual
def textE : ET → List UInt8
  | .code n => tErrno ++ dg n
  | .other _ s => s.data.toList
  | .on _ n e => tNode ++ dg n ++ tColon ++ textE e
  | .of _ n e => tStripe ++ dg n ++ tColon ++ textE e
  | .all _ _ es => Lib.join (textL es) tSemi
def textL : List ET → List (List UInt8)
  | [] => []
  | e :: es => textE e :: textL es
end
theorem textL_map : ∀ (es : List ET), textL es = es.map textE
  | [] => rfl
  | e :: es => by rw [textL, textL_map es]; rfl
mutual
/-- All its numbers are digits. -/
def Digs : ET → Prop
  | .code n => 0 ≤ n ∧ n ≤ 9
  | .other _ _ => True
  | .on _ n e => (0 ≤ n ∧ n ≤ 9) ∧ Digs e
  | .of _ n e => (0 ≤ n ∧ n ≤ 9) ∧ Digs e
  | .all _ _ es => DigsL es
def DigsL : List ET → Prop
  | [] => True
  | e :: es => Digs e ∧ DigsL es
end
theorem DigsL.mem : ∀ {es : List ET}, DigsL es → ∀ e ∈ es, Digs e
  | [], _, e, h => by cases h
  | x :: es, h, e, hm => by
    unfold DigsL at h
    rcases List.mem_cons.1 hm with rfl | hm
    · exact h.1
    · exact DigsL.mem h.2 e hm

theorem join_len (sep : List UInt8) : ∀ (l : List (List UInt8)) (x : List UInt8), x ∈ l → x.length ≤ (Lib.join l sep).length
  | [], x, h => by cases h
  | [y], x, h => by
    rw [List.mem_singleton.1 h, Lib.join_one]; exact Nat.le_refl _
  | y :: z :: l, x, h => by
    have e : Lib.join (y :: z :: l) sep = y ++ (sep ++ Lib.join (z :: l) sep) := by
      rw [Lib.join_cons, Lib.join_cons]; simp [Lib.joinTail]
    rw [e]
    rcases List.mem_cons.1 h with rfl | h
    · simp
    · have := join_len sep (z :: l) x h
      simp; omega

theorem dec_dg {n : Int} (h0 : 0 ≤ n) (h9 : n ≤ 9) : Lib.decDigits n.toNat = dg n := by
  unfold Lib.decDigits dg
  rw [dif_pos (by omega)]
  simp

theorem itoa_dg (n : Int) (h0 : 0 ≤ n) (h9 : n ≤ 9) (w : World) :
    Calls Tryd.prog 62 #[.int .i64 n] w fun e w' => e = .returned (str (dg n)) ∧ w' = w := by
  have h := Sh.strconv_Itoa_small n.toNat (by omega) w
  rw [Int.toNat_of_nonneg h0, dec_dg h0 h9] at h
  exact h

theorem infoStr : (Tryd.prog.info? 9).map (fun i => (i.zero, i.size, i.bytes)) = some (some (.string ⟨#[]⟩), 1, 16) := by kernel_rfl
def strs (l : List (List UInt8)) : List Value := l.map str
theorem strs_one (l : List (List UInt8)) : ∀ u ∈ strs l, u.oneCell' = true := fun u hu => by obtain ⟨x, _, rfl⟩ := List.mem_map.1 hu; rfl
section
variable {W w : World} {F L A : List Atom} {v sv : Value} {o : Oper} {a : Act} {K : Act → World → Prop} {Q : Exit → Act → World → Prop}
theorem wp_append_str {x y : Operand} (ho : o.op = .call { callee := .builtin .append, args := #[x, y], argTypes := #[92, 92] }) (l m : List (List UInt8)) (hv : a.eval x = v) (hsv : a.eval y = sv)
    (hr : RowA 9 1 v l.length (strs l) A) (hs : Sat W w (A ++ F)) (hsrc : Reads w sv m.length (strs m)) (hb : l.length + m.length < 1000000)
    (h : ∀ v' w' A', RowA 9 1 v' (l ++ m).length (strs (l ++ m)) A' → Sat W w' (A' ++ F) → K (a.put o.dst v') w') : o.wp Tryd.prog a w K Q := by
  obtain ⟨i0, hi, hz0, hz1, hz2⟩ := info_parts infoStr
  obtain ⟨v2, w2, R2, hra, hrow, hs2⟩ := append_sl (P := Tryd.prog) o.type Tryd.underlying92 hi hz0 hz1 hz2 rfl (by decide) hr hs hsrc (by simp [strs]) (strs_one m) (by unfold maxLen; omega) (by omega)
  refine wp_append ho (by rw [hv, hsv]; exact hra) (h _ _ _ ?_ hs2)
  rw [List.length_append, strs, List.map_append]
  exact hrow
end

theorem method_code_error (v : Value) (w : World) : (Go.method 262 29 v "Error").run Tryd.prog w = .ok (59, v) w := by kernel_rfl
theorem method_other_error (v : Value) (w : World) : (Go.method 262 89 v "Error").run Tryd.prog w = .ok (83, v) w := by kernel_rfl
theorem method_on_error (v : Value) (w : World) : (Go.method 262 46 v "Error").run Tryd.prog w = .ok (60, v) w := by kernel_rfl
theorem method_of_error (v : Value) (w : World) : (Go.method 262 47 v "Error").run Tryd.prog w = .ok (76, v) w := by kernel_rfl
theorem method_all_error (v : Value) (w : World) : (Go.method 262 58 v "Error").run Tryd.prog w = .ok (23, v) w := by kernel_rfl

theorem conv1 (w : World) (b : Nat) (c : Int) (h0 : 0 ≤ c) (h1 : c < 256) (hc : w.cell? ⟨b, 0, none⟩ = some (.int .u8 c)) :
    (convert 101 9 (.slice (some ⟨b, 0, none⟩) 1 1)).run Tryd.prog w = .ok (str [UInt8.ofNat c.toNat]) w :=
  run_convert_bytes_back w 101 9 5 ⟨b, 0, none⟩ 1 [UInt8.ofNat c.toNat] Tryd.underlying101 Tryd.underlying5 Tryd.underlying9 (fun j hj => by
    have : j = 0 := by simpa using hj
    subst this
    rw [add_row, Nat.add_zero, hc]
    have : (UInt8.ofNat c.toNat).toNat = c.toNat := by simp; omega
    simp only [List.getElem_cons_zero, this]
    congr 2; omega)

set_option maxRecDepth 100000 in
theorem errno_error (n : Int) (h0 : 0 ≤ n) (h9 : n ≤ 9) (w : World) :
    Calls Tryd.prog 59 #[.int .i64 n] w fun e w' => e = .returned (str (tErrno ++ dg n)) ∧ Below w.heap.size w w' := by
  have cv := conv1 (w.alloc (.cells #[.int .u8 (48 + n)] 5)) w.heap.size (48 + n) (by omega) (by omega) (by go_simp)
  rw [show (48 + n).toNat = 48 + n.toNat by omega] at cv
  go_enter Tryd.func59, Tryd.ntmps59
  go_wp2_with fail
  refine wp_loop_rounds 1 ?_
  rw [rounds_succ]
  go_wp2_with fail
  go_ret
  refine ⟨?_, (Below.refl _ w).alloc (Nat.le_refl _) _⟩
  simp [tErrno, dg, ba_app]

theorem other_error (b : Nat) (s : ByteArray) (w : World) (h : w.cell? ⟨b, 0, none⟩ = some (.string s)) :
    Calls Tryd.prog 83 #[.pointer (some ⟨b, 0, none⟩)] w fun e w' => e = .returned (.string s) ∧ w = w' := by
  go_enter Tryd.func83, Tryd.ntmps83
  go_wp2_with fail
  go_ret
  exact ⟨rfl, rfl⟩

/-- What cause.text does at the trees below a size. -/
def TextN (N : Nat) : Prop := ∀ (e : ET), e.size ≤ N → Digs e → (textE e).length < 100000 → ∀ (W w : World) (T F : List Atom), In T e → Sat W w (T ++ F) →
    Calls Tryd.prog 31 #[val e] w fun r w' => r = .returned (str (textE e)) ∧ Sat W w' (T ++ F)

set_option maxRecDepth 100000 in
set_option maxHeartbeats 4000000 in
theorem on_error (N : Nat) (ih : TextN N) (b : Nat) (n : Int) (e : ET) (he : e.size ≤ N) (hd : Digs e) (h0 : 0 ≤ n) (h9 : n ≤ 9) (hl : (textE e).length < 100000) (W w : World) (T F : List Atom) (hin : In T (.on b n e)) (hs : Sat W w (T ++ F)) :
    Calls Tryd.prog 60 #[.pointer (some ⟨b, 0, none⟩)] w fun r w' => r = .returned (str (textE (.on b n e))) ∧ Sat W w' (T ++ F) := by
  unfold In at hin
  obtain ⟨hb, hin2⟩ := hin
  have b0 : w.cell? ⟨b, 0, none⟩ = some (.int .i64 n) := hs.cell (List.mem_append_left _ hb) 0
  have b1 : w.cell? ⟨b, 1, none⟩ = some (val e) := hs.cell (List.mem_append_left _ hb) 1
  go_enter Tryd.func60, Tryd.ntmps60
  go_wp2_with fail
  refine wp_region_one [11] [5, 6] [5, 6] [] [0, 1, 2, 3, 4, 5, 6, 7, 8, 9, 10, 11, 12, 13] (by kernel_rfl) (by kernel_rfl) ?_
  repeat (first | (refine can_pu1 rfl rfl rfl rfl rfl rfl (fun K hK => ?_); go_big_quiet_op; refine hK _ ?_; clear hK K) | (refine can_st1 rfl rfl rfl rfl rfl rfl (fun K hK => ?_); go_big_quiet_op; refine hK _ ?_; clear hK K) | (refine can_early1 rfl rfl rfl rfl rfl (fun K hK => ?_); go_big_quiet_op; refine hK _ ?_; clear hK K) | (refine can_skip rfl rfl rfl ?_; simp only [Act.put, List.setIfInBounds_toArray, List.set_cons_zero, List.set_cons_succ]))
  refine can_call1 rfl rfl rfl rfl (by (intro w; go_simp); (try (repeat' apply And.intro)); all_goals rfl) (itoa_dg n h0 h9 _) ?_; simp only [Act.put, List.setIfInBounds_toArray, List.set_cons_zero, List.set_cons_succ]
  simp only [dg]
  repeat (first | (refine can_pu1 rfl rfl rfl rfl rfl rfl (fun K hK => ?_); go_big_quiet_op; refine hK _ ?_; clear hK K) | (refine can_st1 rfl rfl rfl rfl rfl rfl (fun K hK => ?_); go_big_quiet_op; refine hK _ ?_; clear hK K) | (refine can_early1 rfl rfl rfl rfl rfl (fun K hK => ?_); go_big_quiet_op; refine hK _ ?_; clear hK K) | (refine can_skip rfl rfl rfl ?_; simp only [Act.put, List.setIfInBounds_toArray, List.set_cons_zero, List.set_cons_succ]))
  refine can_act1 rfl rfl rfl (fun K hK => ?_)
  go_wp2_with fail
  refine (ih e he hd hl W _ T F hin2 hs.drew).mono ?_; rintro r w2 ⟨rfl, hs2⟩
  apply hK
  repeat (first | (refine can_pu1 rfl rfl rfl rfl rfl rfl (fun K hK => ?_); go_big_quiet_op; refine hK _ ?_; clear hK K) | (refine can_st1 rfl rfl rfl rfl rfl rfl (fun K hK => ?_); go_big_quiet_op; refine hK _ ?_; clear hK K) | (refine can_early1 rfl rfl rfl rfl rfl (fun K hK => ?_); go_big_quiet_op; refine hK _ ?_; clear hK K) | (refine can_skip rfl rfl rfl ?_; simp only [Act.put, List.setIfInBounds_toArray, List.set_cons_zero, List.set_cons_succ]))
  refine can_end1 ?_; (try simp only [Exit.then])
  go_wp2_with fail
  go_ret
  exact ⟨by simp [textE, tNode, tColon, dg, ba_app], hs2⟩
set_option maxRecDepth 100000 in
set_option maxHeartbeats 4000000 in
theorem of_error (N : Nat) (ih : TextN N) (b : Nat) (n : Int) (e : ET) (he : e.size ≤ N) (hd : Digs e) (h0 : 0 ≤ n) (h9 : n ≤ 9) (hl : (textE e).length < 100000) (W w : World) (T F : List Atom) (hin : In T (.of b n e)) (hs : Sat W w (T ++ F)) :
    Calls Tryd.prog 76 #[.pointer (some ⟨b, 0, none⟩)] w fun r w' => r = .returned (str (textE (.of b n e))) ∧ Sat W w' (T ++ F) := by
  unfold In at hin
  obtain ⟨hb, hin2⟩ := hin
  have b0 : w.cell? ⟨b, 0, none⟩ = some (.int .i64 n) := hs.cell (List.mem_append_left _ hb) 0
  have b1 : w.cell? ⟨b, 1, none⟩ = some (val e) := hs.cell (List.mem_append_left _ hb) 1
  go_enter Tryd.func76, Tryd.ntmps76
  go_wp2_with fail
  refine wp_region_one [11] [5, 6] [5, 6] [] [0, 1, 2, 3, 4, 5, 6, 7, 8, 9, 10, 11, 12, 13] (by kernel_rfl) (by kernel_rfl) ?_
  repeat (first | (refine can_pu1 rfl rfl rfl rfl rfl rfl (fun K hK => ?_); go_big_quiet_op; refine hK _ ?_; clear hK K) | (refine can_st1 rfl rfl rfl rfl rfl rfl (fun K hK => ?_); go_big_quiet_op; refine hK _ ?_; clear hK K) | (refine can_early1 rfl rfl rfl rfl rfl (fun K hK => ?_); go_big_quiet_op; refine hK _ ?_; clear hK K) | (refine can_skip rfl rfl rfl ?_; simp only [Act.put, List.setIfInBounds_toArray, List.set_cons_zero, List.set_cons_succ]))
  refine can_call1 rfl rfl rfl rfl (by (intro w; go_simp); (try (repeat' apply And.intro)); all_goals rfl) (itoa_dg n h0 h9 _) ?_; simp only [Act.put, List.setIfInBounds_toArray, List.set_cons_zero, List.set_cons_succ]
  simp only [dg]
  repeat (first | (refine can_pu1 rfl rfl rfl rfl rfl rfl (fun K hK => ?_); go_big_quiet_op; refine hK _ ?_; clear hK K) | (refine can_st1 rfl rfl rfl rfl rfl rfl (fun K hK => ?_); go_big_quiet_op; refine hK _ ?_; clear hK K) | (refine can_early1 rfl rfl rfl rfl rfl (fun K hK => ?_); go_big_quiet_op; refine hK _ ?_; clear hK K) | (refine can_skip rfl rfl rfl ?_; simp only [Act.put, List.setIfInBounds_toArray, List.set_cons_zero, List.set_cons_succ]))
  refine can_act1 rfl rfl rfl (fun K hK => ?_)
  go_wp2_with fail
  refine (ih e he hd hl W _ T F hin2 hs.drew).mono ?_; rintro r w2 ⟨rfl, hs2⟩
  apply hK
  repeat (first | (refine can_pu1 rfl rfl rfl rfl rfl rfl (fun K hK => ?_); go_big_quiet_op; refine hK _ ?_; clear hK K) | (refine can_st1 rfl rfl rfl rfl rfl rfl (fun K hK => ?_); go_big_quiet_op; refine hK _ ?_; clear hK K) | (refine can_early1 rfl rfl rfl rfl rfl (fun K hK => ?_); go_big_quiet_op; refine hK _ ?_; clear hK K) | (refine can_skip rfl rfl rfl ?_; simp only [Act.put, List.setIfInBounds_toArray, List.set_cons_zero, List.set_cons_succ]))
  refine can_end1 ?_; (try simp only [Exit.then])
  go_wp2_with fail
  go_ret
  exact ⟨by simp [textE, tStripe, tColon, dg, ba_app], hs2⟩

set_option maxRecDepth 100000 in
set_option maxHeartbeats 4000000 in
theorem all_error (N : Nat) (ih : TextN N) (b : Nat) (v : Value) (es : List ET) (he : sizeL es ≤ N) (hd : DigsL es) (hl : (textE (.all b v es)).length < 100000) (W w : World) (T F : List Atom) (hin : In T (.all b v es)) (hs : Sat W w (T ++ F)) :
    Calls Tryd.prog 23 #[.pointer (some ⟨b, 0, none⟩)] w fun r w' => r = .returned (str (textE (.all b v es))) ∧ Sat W w' (T ++ F) := by
  unfold In at hin
  obtain ⟨hb, hrow, hin2⟩ := hin
  have b0 : w.cell? ⟨b, 0, none⟩ = some v := hs.cell (List.mem_append_left _ hb) 0
  obtain ⟨hlen, R0, hr0, hR0⟩ := hrow
  rw [List.length_map] at hlen
  have hsh := Ca.RowA.short hr0
  obtain ⟨a0, c0, e0⟩ := Ca.RowA.slice hr0
  rw [List.length_map] at e0
  subst e0
  have hte : textE (.all b (.slice a0 es.length c0) es) = Lib.join (textL es) tSemi := by rw [textE]
  rw [hte] at hl ⊢
  have htl : (textL es).length = es.length := by rw [textL_map, List.length_map]
  have HTE := Lib.hid hte
  have HTL := Lib.hid htl
  clear hte htl
  go_enter Tryd.func23, Tryd.ntmps23
  go_wp2_with fail
  go_loopw [11, 3] (fun kv ov wr => ∃ (k : Nat) (R : List Atom) (l : List (List UInt8)), kv = .int .i64 k ∧ k ≤ es.length ∧ l = (textL es).take k ∧ RowA 9 1 ov l.length (strs l) R ∧ Sat W wr (R ++ (T ++ F))) (fun kv _ _ => (es.length - (intOf kv).toNat))
  case atStart => exact ⟨0, [], [], rfl, Nat.zero_le _, rfl, RowA.nil _ _, hs⟩
  case round =>
    clear hs b0
    obtain ⟨k, R, l, rfl, hk, hle, hr, hs⟩ := hrel
    have hln : l.length ≤ k := by rw [hle]; exact List.length_take_le _ _
    have HLE := Lib.hid hle
    clear hle
    have k0 : (0 : Int) ≤ k := by omega
    obtain ⟨aR, cR, rfl⟩ := Ca.RowA.slice hr
    by_cases hkl : k < es.length
    · have b1 : (k : Int) < es.length := by omega
      have b2 : (k : Int) < 1000000 := by omega
      obtain ⟨ek, hek⟩ : ∃ ek, es[k]? = some ek := ⟨_, List.getElem?_eq_getElem hkl⟩
      have hmem := List.mem_of_getElem? hek
      have hsz := size_mem hmem
      have hlk : (textE ek).length < 100000 := by
        have := join_len tSemi (textL es) (textE ek) (by rw [textL_map]; exact List.mem_map.2 ⟨ek, hmem, rfl⟩)
        omega
      have htk : (textL es).take (k + 1) = (textL es).take k ++ [textE ek] := by
        rw [List.take_add_one, textL_map, List.getElem?_map, hek]; rfl
      rcases hr0.2 with ⟨_, hz, _⟩ | ⟨gb, go, cc, e1, _, _, _⟩
      · rw [List.length_map] at hz; omega
      simp only [List.length_map, Value.slice.injEq] at e1
      obtain ⟨rfl, _, rfl⟩ := e1
      have d0 : wr.cell? ⟨gb, go + k, none⟩ = some (val ek) := by
        rw [(hr0.cells (Sat.pick hs.right hsh (fun x hx => List.mem_append_left _ (hR0 x hx))) (by rw [List.length_map]) k (by simpa using hkl)).1, List.getElem?_map, hek]; rfl
      have HTK := Lib.hid htk
      clear htk hek
      go_wp2_with fail
      have hs3 : Sat W wr (T ++ (R ++ F)) := hs.use (by intro x; simp only [cnt_append, cnt_cons, cnt_nil]; omega)
      refine (ih ek (by omega) (hd.mem ek hmem) hlk W wr T _ (hin2.mem ek hmem) hs3).mono ?_; rintro r w3 ⟨rfl, hs4⟩
      have hs5 : Sat W (w3.alloc (.cells #[str (textE ek)] 9)) (R ++ (cellsA w3.heap.size #[str (textE ek)] 9 :: (T ++ F))) := (hs4.newCells _ _).use (by intro x; simp only [cnt_append, cnt_cons, cnt_nil]; omega)
      have hsrc : Reads (w3.alloc (.cells #[str (textE ek)] 9)) (.slice (some ⟨w3.heap.size, 0, none⟩) 1 1) [textE ek].length (strs [textE ek]) := by
        refine .inr ⟨_, _, rfl, fun j u hu => ?_⟩
        rw [add_row, hs5.cell (List.mem_append_right _ m0) (0 + j), ← hu]
        simp [strs]
      clear hs hs3 hs4 d0
      go_wp2_with (at_builtin; refine wpList_plain rfl (fun K hK => ?_); refine wp_append_str rfl l [textE ek] rfl rfl hr hs5 hsrc (by simp; omega) (fun v4 w4 R4 hr4 hs6 => ?_); refine hK _ _ ?_; simp only [Act.put, List.setIfInBounds_toArray, List.set_cons_zero, List.set_cons_succ]; clear hK)
      refine ⟨⟨k + 1, R4, l ++ [textE ek], by simp, by omega, by rw [HTK.out, HLE.out], hr4, hs6.use (by intro x; simp only [cnt_append, cnt_cons, cnt_nil]; omega)⟩, ?_⟩
      · simp [intOf]
        omega
    · obtain rfl : k = es.length := by omega
      have hta : textL es = l := by rw [HLE.out, List.take_of_length_le (by have := HTL.out; omega)]
      rw [hta] at HTL hl
      have HTA := Lib.hid hta
      clear HLE hta
      rcases hr.2 with ⟨e1, hz, _⟩ | ⟨gb, go, _, e1, hcc, _, hRR⟩
      · simp only [Value.slice.injEq] at e1
        obtain ⟨rfl, _, rfl⟩ := e1
        obtain rfl : l = [] := List.eq_nil_of_length_eq_zero hz
        go_wp2_with fail
        refine (Sh.strings_Join_none none 0 ⟨#[59, 32]⟩ wr).mono ?_; rintro r w5 ⟨rfl, rfl⟩
        go_wp2_with fail
        go_ret
        exact ⟨by rw [HTA.out]; simp [Lib.join_nil], hs.right⟩
      · simp only [Value.slice.injEq] at e1
        obtain ⟨rfl, _, rfl⟩ := e1
        have hsm := hs.lt (List.mem_append_left _ (by rw [hRR]; exact List.mem_singleton.2 rfl))
        have hcl : ∀ (j : Nat) x, ((l).map (fun x => (⟨x.toArray⟩ : ByteArray)))[j]? = some x → wr.cell? ⟨gb, go + j, none⟩ = some (.string x) := fun j x hx => by
          have hj : j < (l).length := by simpa using (List.getElem?_eq_some_iff.1 hx).1
          rw [(hr.cells hs rfl j (by simpa [strs] using hj)).1, strs, List.getElem?_map]
          rw [List.getElem?_map] at hx
          cases hq : (l)[j]? with
          | none => rw [hq] at hx; cases hx
          | some y => rw [hq] at hx; cases hx; rfl
        have hmm : ((l).map (fun x => (⟨x.toArray⟩ : ByteArray))).map (·.data.toList) = l := by
          rw [List.map_map]; simp [Function.comp_def]
        have hjn := Sh.strings_Join gb go cR ((l).map (fun x => (⟨x.toArray⟩ : ByteArray))) ⟨#[59, 32]⟩ wr hcl hsm (by rw [List.length_map]; omega) (by rw [List.length_map]; exact hcc) (by rw [hmm]; exact Nat.le_trans (Nat.le_of_lt hl) (by decide))
        rw [hmm, List.length_map] at hjn
        have HJ := Lib.hid hjn
        clear hjn hmm hcl
        go_wp2_with fail
        refine HJ.out.mono ?_; rintro r w5 ⟨rfl, hb5⟩
        go_wp2_with fail
        go_ret
        exact ⟨by rw [HTA.out]; rfl, (hs.below hb5).right⟩

/-- A tree's Error(). -/
def errF : ET → FuncId
  | .code _ => 59
  | .other _ _ => 83
  | .on _ _ _ => 60
  | .of _ _ _ => 76
  | .all _ _ _ => 23
def recvE : ET → Value
  | .code n => .int .i64 n
  | .other b _ => .pointer (some ⟨b, 0, none⟩)
  | .on b _ _ => .pointer (some ⟨b, 0, none⟩)
  | .of b _ _ => .pointer (some ⟨b, 0, none⟩)
  | .all b _ _ => .pointer (some ⟨b, 0, none⟩)

theorem error_step (N : Nat) (ih : TextN N) (e : ET) (he : e.size ≤ N + 1) (hd : Digs e) (hl : (textE e).length < 100000) (W w : World) (T F : List Atom) (hin : In T e) (hs : Sat W w (T ++ F)) :
    Calls Tryd.prog (errF e) #[recvE e] w fun r w' => r = .returned (str (textE e)) ∧ Sat W w' (T ++ F) := by
  cases e with
  | code n =>
    unfold Digs at hd
    refine (errno_error n hd.1 hd.2 w).mono ?_
    rintro r w' ⟨rfl, hb⟩
    exact ⟨by rw [textE], hs.below hb⟩
  | other b s =>
    unfold In at hin
    refine (other_error b s w (hs.cell (List.mem_append_left _ hin) 0)).mono ?_
    rintro r w' ⟨rfl, rfl⟩
    exact ⟨by rw [textE], hs⟩
  | on b n e =>
    unfold Digs at hd
    have hl2 : (textE e).length < 100000 := by
      rw [textE, List.length_append] at hl
      omega
    rw [size_on] at he
    exact on_error N ih b n e (by omega) hd.2 hd.1.1 hd.1.2 hl2 W w T F hin hs
  | of b n e =>
    unfold Digs at hd
    have hl2 : (textE e).length < 100000 := by
      rw [textE, List.length_append] at hl
      omega
    rw [size_of] at he
    exact of_error N ih b n e (by omega) hd.2 hd.1.1 hd.1.2 hl2 W w T F hin hs
  | all b v es =>
    unfold Digs at hd
    rw [size_all] at he
    exact all_error N ih b v es (by omega) hd hl W w T F hin hs
theorem method_val_error (e : ET) (w : World) : ∃ t, val e = .iface t (recvE e) ∧ ∀ w, (Go.method 262 t (recvE e) "Error").run Tryd.prog w = .ok (errF e, recvE e) w := by
  cases e with
  | code n => exact ⟨_, rfl, method_code_error _⟩
  | other b s => exact ⟨_, rfl, method_other_error _⟩
  | on b n e => exact ⟨_, rfl, method_on_error _⟩
  | of b n e => exact ⟨_, rfl, method_of_error _⟩
  | all b v es => exact ⟨_, rfl, method_all_error _⟩

set_option maxRecDepth 100000 in
theorem text_step (N : Nat) (ih : TextN N) : TextN (N + 1) := by
  intro e he hd hl W w T F hin hs
  cases e with
  | code n =>
    have u4 := val_nil (.code n)
    have u5 := guard_nil (.code n)
    have hm := method_code_error (recvE (.code n))
    have hst := error_step N ih (.code n) he hd hl W w T F hin hs
    have HST := Lib.hid hst
    clear hst he hd hl hin hs
    generalize textE (.code n) = tt at *
    unfold recvE at HST hm
    unfold errF at HST
    rw [show val (.code n) = .iface 29 (.int .i64 n) from rfl] at u4 u5 ⊢
    go_enter Tryd.func31, Tryd.ntmps31
    go_wp2_with fail
    refine HST.out.mono ?_; rintro r w2 ⟨rfl, hs2⟩
    go_wp2_with fail
    go_ret
    exact ⟨rfl, hs2⟩
  | other b s =>
    have u4 := val_nil (.other b s)
    have u5 := guard_nil (.other b s)
    have hm := method_other_error (recvE (.other b s))
    have hst := error_step N ih (.other b s) he hd hl W w T F hin hs
    have HST := Lib.hid hst
    clear hst he hd hl hin hs
    generalize textE (.other b s) = tt at *
    unfold recvE at HST hm
    unfold errF at HST
    rw [show val (.other b s) = .iface 89 (.pointer (some ⟨b, 0, none⟩)) from rfl] at u4 u5 ⊢
    go_enter Tryd.func31, Tryd.ntmps31
    go_wp2_with fail
    refine HST.out.mono ?_; rintro r w2 ⟨rfl, hs2⟩
    go_wp2_with fail
    go_ret
    exact ⟨rfl, hs2⟩
  | on b n e =>
    have u4 := val_nil (.on b n e)
    have u5 := guard_nil (.on b n e)
    have hm := method_on_error (recvE (.on b n e))
    have hst := error_step N ih (.on b n e) he hd hl W w T F hin hs
    have HST := Lib.hid hst
    clear hst he hd hl hin hs
    generalize textE (.on b n e) = tt at *
    unfold recvE at HST hm
    unfold errF at HST
    rw [show val (.on b n e) = .iface 46 (.pointer (some ⟨b, 0, none⟩)) from rfl] at u4 u5 ⊢
    go_enter Tryd.func31, Tryd.ntmps31
    go_wp2_with fail
    refine HST.out.mono ?_; rintro r w2 ⟨rfl, hs2⟩
    go_wp2_with fail
    go_ret
    exact ⟨rfl, hs2⟩
  | of b n e =>
    have u4 := val_nil (.of b n e)
    have u5 := guard_nil (.of b n e)
    have hm := method_of_error (recvE (.of b n e))
    have hst := error_step N ih (.of b n e) he hd hl W w T F hin hs
    have HST := Lib.hid hst
    clear hst he hd hl hin hs
    generalize textE (.of b n e) = tt at *
    unfold recvE at HST hm
    unfold errF at HST
    rw [show val (.of b n e) = .iface 47 (.pointer (some ⟨b, 0, none⟩)) from rfl] at u4 u5 ⊢
    go_enter Tryd.func31, Tryd.ntmps31
    go_wp2_with fail
    refine HST.out.mono ?_; rintro r w2 ⟨rfl, hs2⟩
    go_wp2_with fail
    go_ret
    exact ⟨rfl, hs2⟩
  | all b v es =>
    have u4 := val_nil (.all b v es)
    have u5 := guard_nil (.all b v es)
    have hm := method_all_error (recvE (.all b v es))
    have hst := error_step N ih (.all b v es) he hd hl W w T F hin hs
    have HST := Lib.hid hst
    clear hst he hd hl hin hs
    generalize textE (.all b v es) = tt at *
    unfold recvE at HST hm
    unfold errF at HST
    rw [show val (.all b v es) = .iface 58 (.pointer (some ⟨b, 0, none⟩)) from rfl] at u4 u5 ⊢
    go_enter Tryd.func31, Tryd.ntmps31
    go_wp2_with fail
    refine HST.out.mono ?_; rintro r w2 ⟨rfl, hs2⟩
    go_wp2_with fail
    go_ret
    exact ⟨rfl, hs2⟩
theorem text_any : ∀ N, TextN N
  | 0 => fun e he => by have := size_pos e; omega
  | N + 1 => text_step N (text_any N)
end Go.Proofs.YtoknokbbggnmjaaDoor.Ca
