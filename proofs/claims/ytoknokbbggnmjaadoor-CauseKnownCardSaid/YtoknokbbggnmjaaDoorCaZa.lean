/-
  Joined errors of which some are nil: their text, their code; of nil: Nodes, Is.
-/
import Derived.Test.YtoknokbbggnmjaaDoorCaW
import Derived.Test.YtoknokbbggnmjaaDoorCaU
namespace Go.Proofs.YtoknokbbggnmjaaDoor.Ca
set_option linter.unusedSimpArgs false
open Go Go.RowKit Go.Sl Go.Extern.Stop Go.Stop Go.Extern
set_option linter.unusedVariables false

def codeO : List (Option ET) → Option Int
  | [] => none
  | none :: os => codeO os
  | some e :: os => match code1 e with
    | some n => some n
    | none => codeO os
def codeO1 (r : Option Int) : Option ET → Option Int
  | none => r
  | some e => match code1 e with
    | some n => some n
    | none => r
theorem codeO_step {os : List (Option ET)} {k : Nat} {e : Option ET} (h : os[k]? = some e) : codeO (os.drop k) = codeO1 (codeO (os.drop (k + 1))) e := by
  obtain ⟨hk, he⟩ := List.getElem?_eq_some_iff.1 h
  rw [List.drop_eq_getElem_cons hk, he]
  cases e <;> rfl
def textO : Option ET → List UInt8
  | none => [110, 111, 110, 101]
  | some e => textE e
theorem text_nil (w : World) : Calls Tryd.prog 31 #[.nilIface] w fun r w' => r = .returned (str [110, 111, 110, 101]) ∧ w = w' := by
  go_enter Tryd.func31, Tryd.ntmps31
  go_wp2_with fail
  go_ret
  exact ⟨rfl, rfl⟩
theorem text_O (o : Option ET) (hd : ∀ e, o = some e → Digs e) (hl : (textO o).length < 100000) (W w : World) (T F : List Atom) (hin : ∀ e, o = some e → In T e) (hs : Sat W w (T ++ F)) :
    Calls Tryd.prog 31 #[oval o] w fun r w' => r = .returned (str (textO o)) ∧ Sat W w' (T ++ F) := by
  cases o with
  | none =>
    refine (text_nil w).mono ?_
    rintro r w' ⟨rfl, rfl⟩
    exact ⟨rfl, hs⟩
  | some e => exact text_any e.size e (Nat.le_refl _) (hd e rfl) hl W w T F (hin e rfl) hs
theorem is_nil (m : Int) (w : World) : Calls Tryd.prog 17 #[.nilIface, .int .i64 m] w fun r w' => r = .returned (.bool false) ∧ w = w' := by
  go_enter Tryd.func17, Tryd.ntmps17
  go_wp2_with fail
  go_ret
  exact ⟨rfl, rfl⟩
set_option maxRecDepth 100000 in
theorem nodes_nil (w : World) : Calls Tryd.prog 15 #[.nilIface] w fun r w' => r = .returned (.slice none 0 0) ∧ w = w' := by
  have u1 : ∀ (w : World) (xT : TypeId), (Instr.typeAssert .nilIface xT 46 true).run Tryd.prog w = .ok (.tuple #[.pointer none, .bool false]) w := fun w xT => by kernel_rfl
  have u2 : ∀ (w : World) (xT : TypeId), (Instr.typeAssert .nilIface xT 65 true).run Tryd.prog w = .ok (.tuple #[.nilIface, .bool false]) w := fun w xT => by kernel_rfl
  have u3 : ∀ (w : World) (xT : TypeId), (Instr.typeAssert .nilIface xT 67 true).run Tryd.prog w = .ok (.tuple #[.nilIface, .bool false]) w := fun w xT => by kernel_rfl
  go_enter Tryd.func15, Tryd.ntmps15
  go_wp2_with fail
  go_ret
  exact ⟨rfl, rfl⟩
set_option maxRecDepth 100000 in
set_option maxHeartbeats 4000000 in
theorem all_errorO (b : Nat) (v : Value) (os : List (Option ET)) (hd : ∀ e, some e ∈ os → Digs e) (hl : (Lib.join (os.map textO) tSemi).length < 100000) (W w : World) (T F : List Atom) (hb : cellsA b #[v] 60 ∈ T) (hrow : InRow T v (os.map oval)) (hin2 : ∀ e, some e ∈ os → In T e) (hs : Sat W w (T ++ F)) :
    Calls Tryd.prog 23 #[.pointer (some ⟨b, 0, none⟩)] w fun r w' => r = .returned (str (Lib.join (os.map textO) tSemi)) ∧ Sat W w' (T ++ F) := by
  have b0 : w.cell? ⟨b, 0, none⟩ = some v := hs.cell (List.mem_append_left _ hb) 0
  obtain ⟨hlen, R0, hr0, hR0⟩ := hrow
  rw [List.length_map] at hlen
  have hsh := Ca.RowA.short hr0
  obtain ⟨a0, c0, e0⟩ := Ca.RowA.slice hr0
  rw [List.length_map] at e0
  subst e0
  obtain ⟨tl, htl0⟩ : ∃ tl, tl = os.map textO := ⟨_, rfl⟩
  have htl : tl.length = os.length := by rw [htl0, List.length_map]
  rw [← htl0] at hl ⊢
  have HT0 := Lib.hid htl0
  have HTL := Lib.hid htl
  clear htl htl0
  go_enter Tryd.func23, Tryd.ntmps23
  go_wp2_with fail
  go_loopw [11, 3] (fun kv ov wr => ∃ (k : Nat) (R : List Atom) (l : List (List UInt8)), kv = .int .i64 k ∧ k ≤ os.length ∧ l = (tl).take k ∧ RowA 9 1 ov l.length (strs l) R ∧ Sat W wr (R ++ (T ++ F))) (fun kv _ _ => (os.length - (intOf kv).toNat))
  case atStart => exact ⟨0, [], [], rfl, Nat.zero_le _, rfl, RowA.nil _ _, hs⟩
  case round =>
    clear hs b0
    obtain ⟨k, R, l, rfl, hk, hle, hr, hs⟩ := hrel
    have hln : l.length ≤ k := by rw [hle]; exact List.length_take_le _ _
    have HLE := Lib.hid hle
    clear hle
    have k0 : (0 : Int) ≤ k := by omega
    obtain ⟨aR, cR, rfl⟩ := Ca.RowA.slice hr
    by_cases hkl : k < os.length
    · have b1 : (k : Int) < os.length := by omega
      have b2 : (k : Int) < 1000000 := by omega
      obtain ⟨ek, hek⟩ : ∃ ek, os[k]? = some ek := ⟨_, List.getElem?_eq_getElem hkl⟩
      have hmem := List.mem_of_getElem? hek
      have hlk : (textO ek).length < 100000 := by
        have := join_len tSemi tl (textO ek) (by rw [HT0.out]; exact List.mem_map.2 ⟨ek, hmem, rfl⟩)
        omega
      have htk : tl.take (k + 1) = tl.take k ++ [textO ek] := by
        rw [List.take_add_one, HT0.out, List.getElem?_map, hek]; rfl
      rcases hr0.2 with ⟨_, hz, _⟩ | ⟨gb, go, cc, e1, _, _, _⟩
      · rw [List.length_map] at hz; omega
      simp only [List.length_map, Value.slice.injEq] at e1
      obtain ⟨rfl, _, rfl⟩ := e1
      have d0 : wr.cell? ⟨gb, go + k, none⟩ = some (oval ek) := by
        rw [(hr0.cells (Sat.pick hs.right hsh (fun x hx => List.mem_append_left _ (hR0 x hx))) (by rw [List.length_map]) k (by simpa using hkl)).1, List.getElem?_map, hek]; rfl
      have HTK := Lib.hid htk
      clear htk hek
      have hs3 : Sat W wr (T ++ (R ++ F)) := hs.use (by intro x; simp only [cnt_append, cnt_cons, cnt_nil]; omega)
      have hct := text_O ek (fun e he => hd e (he ▸ hmem)) hlk W wr T _ (fun e he => hin2 e (he ▸ hmem)) hs3
      have HCT := Lib.hid hct
      clear hct hmem
      go_wp2_with fail
      refine HCT.out.mono ?_; rintro r w3 ⟨rfl, hs4⟩
      have hs5 : Sat W (w3.alloc (.cells #[str (textO ek)] 9)) (R ++ (cellsA w3.heap.size #[str (textO ek)] 9 :: (T ++ F))) := (hs4.newCells _ _).use (by intro x; simp only [cnt_append, cnt_cons, cnt_nil]; omega)
      have hsrc : Reads (w3.alloc (.cells #[str (textO ek)] 9)) (.slice (some ⟨w3.heap.size, 0, none⟩) 1 1) [textO ek].length (strs [textO ek]) := by
        refine .inr ⟨_, _, rfl, fun j u hu => ?_⟩
        rw [add_row, hs5.cell (List.mem_append_right _ m0) (0 + j), ← hu]
        simp [strs]
      clear hs hs3 hs4 d0
      go_wp2_with (at_builtin; refine wpList_plain rfl (fun K hK => ?_); refine wp_append_str rfl l [textO ek] rfl rfl hr hs5 hsrc (by simp; omega) (fun v4 w4 R4 hr4 hs6 => ?_); refine hK _ _ ?_; simp only [Act.put, List.setIfInBounds_toArray, List.set_cons_zero, List.set_cons_succ]; clear hK)
      refine ⟨⟨k + 1, R4, l ++ [textO ek], by simp, by omega, by rw [HTK.out, HLE.out], hr4, hs6.use (by intro x; simp only [cnt_append, cnt_cons, cnt_nil]; omega)⟩, ?_⟩
      · simp [intOf]
        omega
    · obtain rfl : k = os.length := by omega
      have hta : tl = l := by rw [HLE.out, List.take_of_length_le (by have := HTL.out; omega)]
      rw [hta] at HTL hl
      have HTA := Lib.hid hta
      clear HLE hta
      rcases hr.2 with ⟨e1, hz, _⟩ | ⟨gb, go, _, e1, hcc, _, hRR⟩
      · simp only [Value.slice.injEq] at e1
        obtain ⟨rfl, _, rfl⟩ := e1
        obtain rfl : l = [] := List.eq_nil_of_length_eq_zero hz
        go_wp2_with fail
        refine (Sh.strings_Join_none none 0 ⟨#[59, 32]⟩ wr).mono ?_; rintro r w5 ⟨rfl, rfl⟩
        go_wp2_with fail
        go_ret
        exact ⟨by rw [HTA.out]; simp [Lib.join_nil], hs.right⟩
      · simp only [Value.slice.injEq] at e1
        obtain ⟨rfl, _, rfl⟩ := e1
        have hsm := hs.lt (List.mem_append_left _ (by rw [hRR]; exact List.mem_singleton.2 rfl))
        have hcl : ∀ (j : Nat) x, ((l).map (fun x => (⟨x.toArray⟩ : ByteArray)))[j]? = some x → wr.cell? ⟨gb, go + j, none⟩ = some (.string x) := fun j x hx => by
          have hj : j < (l).length := by simpa using (List.getElem?_eq_some_iff.1 hx).1
          rw [(hr.cells hs rfl j (by simpa [strs] using hj)).1, strs, List.getElem?_map]
          rw [List.getElem?_map] at hx
          cases hq : (l)[j]? with
          | none => rw [hq] at hx; cases hx
          | some y => rw [hq] at hx; cases hx; rfl
        have hmm : ((l).map (fun x => (⟨x.toArray⟩ : ByteArray))).map (·.data.toList) = l := by
          rw [List.map_map]; simp [Function.comp_def]
        have hjn := Sh.strings_Join gb go cR ((l).map (fun x => (⟨x.toArray⟩ : ByteArray))) ⟨#[59, 32]⟩ wr hcl hsm (by rw [List.length_map]; omega) (by rw [List.length_map]; exact hcc) (by rw [hmm]; exact Nat.le_trans (Nat.le_of_lt hl) (by decide))
        rw [hmm, List.length_map] at hjn
        have HJ := Lib.hid hjn
        clear hjn hmm hcl
        go_wp2_with fail
        refine HJ.out.mono ?_; rintro r w5 ⟨rfl, hb5⟩
        go_wp2_with fail
        go_ret
        exact ⟨by rw [HTA.out]; rfl, (hs.below hb5).right⟩

set_option maxRecDepth 100000 in
set_option maxHeartbeats 4000000 in
theorem as_codeO (b : Nat) (v : Value) (os : List (Option ET)) (W w : World) (T F : List Atom) (z nv : Nat) (k0 : Value) (hb : cellsA b #[v] 60 ∈ T) (hrow : InRow T v (os.map oval)) (hin2 : ∀ e, some e ∈ os → In T e)
    (hs : Sat W w (cellsA z #[k0] 29 :: cellsA nv #[.pointer (some ⟨z, 0, none⟩)] 69 :: (T ++ F))) :
    Calls Tryd.prog 30 #[.iface 58 (.pointer (some ⟨b, 0, none⟩)), .iface 69 (.pointer (some ⟨z, 0, none⟩)), .agg #[H 69, .pointer (some ⟨nv, 0, none⟩), .int .u64 150], .iface 96 (.agg #[H 29])] w
      fun r w' => r = .returned (.bool (codeO os).isSome) ∧ Sat W w' (cellsA z #[got k0 (codeO os)] 29 :: cellsA nv #[.pointer (some ⟨z, 0, none⟩)] 69 :: (T ++ F)) := by
  generalize hc : codeO os = c
  have x1 := @run_callFunc_extern Tryd.prog 24 _ ReflectliteType.typeOf Tryd.func24 (by kernel_rfl) (by kernel_rfl) (by kernel_rfl) (by kernel_rfl)
  have x2 := @run_callFunc_extern Tryd.prog 85 _ (ReflectliteType.relation "AssignableTo" ReflectliteType.assignableTo) Tryd.func85 (by kernel_rfl) (by kernel_rfl) (by kernel_rfl) (by kernel_rfl)
  have x3 := @run_callFunc_extern Tryd.prog 27 _ (fun args => ReflectliteValue.unpack (args.getD 0 (.tuple #[]))) Tryd.func27 (by kernel_rfl) (by kernel_rfl) (by kernel_rfl) (by kernel_rfl)
  have x4 := @run_callFunc_extern Tryd.prog 33 _ (ReflectliteValue.method (ReflectliteValue.valueError "reflectlite.Value.Elem" 0) ReflectliteValue.elem) Tryd.func33 (by kernel_rfl) (by kernel_rfl) (by kernel_rfl) (by kernel_rfl)
  have x5 := @run_callFunc_extern Tryd.prog 34 _ ReflectliteValue.set Tryd.func34 (by kernel_rfl) (by kernel_rfl) (by kernel_rfl) (by kernel_rfl)
  have t1 := typeOf_code
  have t2 := typeOf_on
  have t3 := typeOf_of
  have t4 := typeOf_all
  have t5 := typeOf_other
  have ma := method_assignable
  have a1 := assignable_code
  have a2 := assignable_on
  have a3 := assignable_of
  have a4 := assignable_all
  have a5 := assignable_other
  have hs1 : Sat W (w.alloc (.cells #[H 69, .pointer (some ⟨nv, 0, none⟩), .int .u64 150] 81)) (cellsA w.heap.size #[H 69, .pointer (some ⟨nv, 0, none⟩), .int .u64 150] 81 :: cellsA z #[k0] 29 :: cellsA nv #[.pointer (some ⟨z, 0, none⟩)] 69 :: (T ++ F)) := hs.newCells _ _
  have HC := Lib.hid hc
  clear hc
  go_enter Tryd.func30, Tryd.ntmps30
  go_wp2_with fail
  generalize w.heap.size = y at *
  go_loopg [0] 1 (fun g tv wr => g = 1 ∧ tv = .iface 58 (.pointer (some ⟨b, 0, none⟩)) ∧ Sat W wr (cellsA y #[H 69, .pointer (some ⟨nv, 0, none⟩), .int .u64 150] 81 :: cellsA z #[k0] 29 :: cellsA nv #[.pointer (some ⟨z, 0, none⟩)] 69 :: (T ++ F)))
  case atStart => exact ⟨rfl, rfl, hs1⟩
  case round =>
    clear hs hs1
    obtain ⟨rfl, rfl, hs⟩ := hrel
    have y0 : wr.cell? ⟨y, 0, none⟩ = some (H 69) := hs.cell m0 0
    have y1 : wr.cell? ⟨y, 1, none⟩ = some (.pointer (some ⟨nv, 0, none⟩)) := hs.cell m0 1
    have y2 : wr.cell? ⟨y, 2, none⟩ = some (.int .u64 150) := hs.cell m0 2
    have n0 : wr.cell? ⟨nv, 0, none⟩ = some (.pointer (some ⟨z, 0, none⟩)) := hs.cell m2 0
    have u1 := assert_all_as
    have u2 := assert_all_unwrap
    have u3 := assert_all_unwraps
    have u5 := method_all_unwrap
    have hT : ∀ x ∈ T, x ∈ (cellsA y #[H 69, .pointer (some ⟨nv, 0, none⟩), .int .u64 150] 81 :: cellsA z #[k0] 29 :: cellsA nv #[.pointer (some ⟨z, 0, none⟩)] 69 :: (T ++ F)) := fun x hx => List.mem_cons_of_mem _ (List.mem_cons_of_mem _ (List.mem_cons_of_mem _ (List.mem_append_left _ hx)))
    have hlen := hrow.1
    rw [List.length_map] at hlen
    go_wp2_with fail
    refine (all_unwrap b W wr _ v (os.map oval) hs (hT _ hb) (hrow.mono hT) (fun u hu => by obtain ⟨x, _, rfl⟩ := List.mem_map.1 hu; exact oval_one x)).mono ?_; rintro r w2 ⟨v1, R1, rfl, hr1, hs1⟩
    rw [List.length_map] at hr1
    obtain ⟨a1', c1', rfl⟩ := Ca.RowA.slice hr1
    clear hs y0 y1 y2 n0 hb hrow
    go_wp2_with fail
    have hcl : codeO os = c := HC.out
    go_loopg [50] os.length (fun g kv wr => ∃ k : Nat, g = os.length - k ∧ kv = .int .i64 k ∧ k ≤ os.length ∧ codeO (os.drop k) = c ∧ Sat W wr (R1 ++ (cellsA y #[H 69, .pointer (some ⟨nv, 0, none⟩), .int .u64 150] 81 :: cellsA z #[k0] 29 :: cellsA nv #[.pointer (some ⟨z, 0, none⟩)] 69 :: (T ++ F))))
    case atStart => exact ⟨0, by simp, rfl, Nat.zero_le _, by simpa using hcl, hs1⟩
    case round =>
      clear hs1 hcl HC
      obtain ⟨k, rfl, rfl, hk, hcd, hs⟩ := hrel
      have HCD := Lib.hid hcd
      clear hcd
      have b0 : (0 : Int) ≤ k := by omega
      by_cases hkl : k < os.length
      · have b1 : (k : Int) < os.length := by omega
        have b2 : (k : Int) < 1000000 := by omega
        obtain ⟨ek, hek⟩ : ∃ ek, os[k]? = some ek := ⟨_, List.getElem?_eq_getElem hkl⟩
        have hmem := List.mem_of_getElem? hek
        rcases hr1.2 with ⟨_, hz, _⟩ | ⟨g1, o1, cap1, e1, _, _, _⟩
        · omega
        cases e1
        have d0 : wr.cell? ⟨g1, o1 + k, none⟩ = some (oval ek) := by
          rw [(hr1.cells hs rfl k (by simpa using hkl)).1, List.getElem?_map, hek]; rfl
        have hs2 := Sat.right hs
        have y0 : wr.cell? ⟨y, 0, none⟩ = some (H 69) := hs2.cell m0 0
        have y1 : wr.cell? ⟨y, 1, none⟩ = some (.pointer (some ⟨nv, 0, none⟩)) := hs2.cell m0 1
        have y2 : wr.cell? ⟨y, 2, none⟩ = some (.int .u64 150) := hs2.cell m0 2
        have hstep := codeO_step hek
        clear hs2 hek
        cases ek with
        | none =>
          have d1 : wr.cell? ⟨g1, o1 + k, none⟩ = some .nilIface := d0
          have hcn : codeO (os.drop (k + 1)) = c := by rw [← HCD.out, hstep]; rfl
          have HCN := Lib.hid hcn
          clear d0 hstep hcn
          go_wp2_with fail
          go_roundg (os.length - (k + 1))
          case measure => omega
          case rel => exact ⟨k + 1, rfl, by simp, by omega, HCN.out, hs⟩
        | some ek =>
        have d1 : wr.cell? ⟨g1, o1 + k, none⟩ = some (val ek) := d0
        have u4 := val_nil ek
        have u6 := guard_nil ek
        have HST := Lib.hid hstep
        clear d0 hstep
        go_wp2_with fail
        have hs3 : Sat W wr (cellsA z #[k0] 29 :: cellsA nv #[.pointer (some ⟨z, 0, none⟩)] 69 :: (T ++ (R1 ++ (cellsA y #[H 69, .pointer (some ⟨nv, 0, none⟩), .int .u64 150] 81 :: F)))) := hs.use (by intro x; simp only [cnt_append, cnt_cons, cnt_nil]; omega)
        refine (as_code ek.size ek (Nat.le_refl _) W wr T _ z nv k0 (hin2 ek hmem) hs3).mono ?_; rintro r w3 ⟨rfl, hs4⟩
        clear hs hs3
        cases hce : code1 ek with
        | none =>
          rw [hce] at hs4
          simp only [got] at hs4
          have hcn : codeO (os.drop (k + 1)) = c := by have h1 := HST.out; simp only [codeO1, hce] at h1; rw [← h1]; exact HCD.out
          have HCN := Lib.hid hcn
          clear hce hcn
          go_wp2_with fail
          go_roundg (os.length - (k + 1))
          case measure => omega
          case rel => exact ⟨k + 1, rfl, by simp, by omega, HCN.out, hs4.use (by intro x; simp only [cnt_append, cnt_cons, cnt_nil]; omega)⟩
        | some n =>
          rw [hce] at hs4
          have hcn : c = some n := by have h1 := HST.out; simp only [codeO1, hce] at h1; rw [← h1]; exact HCD.out.symm
          have HCN := Lib.hid hcn
          clear hce hcn
          go_wp2_with fail
          go_ret
          have hc := HCN.out
          subst hc
          exact ⟨rfl, hs4.use (by intro x; simp only [cnt_append, cnt_cons, cnt_nil]; omega)⟩
      · obtain rfl : k = os.length := by omega
        go_wp2_with fail
        go_ret
        have hc := HCD.out
        simp only [List.drop_length] at hc
        unfold codeO at hc
        subst hc
        simp only [got]
        exact ⟨rfl, hs.use (by intro x; simp only [cnt_append, cnt_cons, cnt_nil]; omega)⟩
set_option maxRecDepth 100000 in
set_option maxHeartbeats 4000000 in
theorem As_codeO (b : Nat) (v : Value) (os : List (Option ET)) (W w : World) (T F : List Atom) (z : Nat) (k0 : Value) (hb : cellsA b #[v] 60 ∈ T) (hrow : InRow T v (os.map oval)) (hin2 : ∀ e, some e ∈ os → In T e) (hG : ErrT w) (hs : Sat W w (cellsA z #[k0] 29 :: (T ++ F))) :
    Calls Tryd.prog 20 #[.iface 58 (.pointer (some ⟨b, 0, none⟩)), .iface 69 (.pointer (some ⟨z, 0, none⟩))] w
      fun r w' => r = .returned (.bool (codeO os).isSome) ∧ Sat W w' (cellsA z #[got k0 (codeO os)] 29 :: (T ++ F)) := by
  have x1 := @run_callFunc_extern Tryd.prog 27 _ (fun args => ReflectliteValue.unpack (args.getD 0 (.tuple #[]))) Tryd.func27 (by kernel_rfl) (by kernel_rfl) (by kernel_rfl) (by kernel_rfl)
  have x2 := @run_callFunc_extern Tryd.prog 28 _ (ReflectliteValue.methodAny (ReflectliteValue.valueError "reflectlite.Value.Type" 0) fun t _ _ _ => ReflectliteType.toType t) Tryd.func28 (by kernel_rfl) (by kernel_rfl) (by kernel_rfl) (by kernel_rfl)
  have x3 := @run_callFunc_extern Tryd.prog 56 _ (ReflectliteType.abiMethod fun t => do pure (.int .u8 (← Rtype.kind t))) Tryd.func56 (by kernel_rfl) (by kernel_rfl) (by kernel_rfl) (by kernel_rfl)
  have x4 := @run_callFunc_extern Tryd.prog 29 _ (ReflectliteValue.method (ReflectliteValue.valueError "reflectlite.Value.IsNil" 0) ReflectliteValue.isNil) Tryd.func29 (by kernel_rfl) (by kernel_rfl) (by kernel_rfl) (by kernel_rfl)
  have x5 := @run_callFunc_extern Tryd.prog 87 _ (ReflectliteType.method ReflectliteType.elem) Tryd.func87 (by kernel_rfl) (by kernel_rfl) (by kernel_rfl) (by kernel_rfl)
  have x6 := @run_callFunc_extern Tryd.prog 88 _ (ReflectliteType.relation "Implements" ReflectliteType.implements_) Tryd.func88 (by kernel_rfl) (by kernel_rfl) (by kernel_rfl) (by kernel_rfl)
  have m1 := method_kind
  have m2 := method_elem
  have m3 := method_implements
  have f1 := valueOf_ptr (.pointer (some ⟨z, 0, none⟩))
  have f2 := type_ptr
  have f3 := kind2_ptr
  have f4 := elem_ptr
  have f5 := kind2_code
  have f6 := implements_code
  have u4 := val_nil (.all b v [])
  have u5 := guard_nil (.all b v [])
  rw [show val (.all b v []) = .iface 58 (.pointer (some ⟨b, 0, none⟩)) from rfl] at u4 u5
  have hG0 : w.cell? ⟨0, 0, none⟩ = some (.iface 96 (.agg #[H 27])) := hG
  have g0 : 0 < w.heap.size := World.block_lt_of_cell? _ _ hG0
  simp only [Value.cells] at f1
  have f7 := isNil_ptr ⟨w.heap.size, 0, none⟩ ⟨z, 0, none⟩ ((w.alloc (.cells #[.pointer (some ⟨z, 0, none⟩)] 69)).alloc (.cells #[H 69, .pointer (some ⟨w.heap.size, 0, none⟩), .int .u64 150] 81)) (by go_simp)
  have hs1 := (hs.newCells #[.pointer (some ⟨z, 0, none⟩)] 69).newCells #[H 69, .pointer (some ⟨w.heap.size, 0, none⟩), .int .u64 150] 81
  rw [show (w.alloc (.cells #[.pointer (some ⟨z, 0, none⟩)] 69)).heap.size = w.heap.size + 1 by simp] at hs1
  have hs2 : Sat W _ (cellsA z #[k0] 29 :: cellsA w.heap.size #[.pointer (some ⟨z, 0, none⟩)] 69 :: (T ++ (cellsA (w.heap.size + 1) #[H 69, .pointer (some ⟨w.heap.size, 0, none⟩), .int .u64 150] 81 :: F))) := hs1.use (by intro x; simp only [cnt_append, cnt_cons, cnt_nil]; omega)
  clear hG hs hs1
  go_enter Tryd.func20, Tryd.ntmps20
  go_wp2_with fail
  refine (as_codeO b v os W _ T _ z w.heap.size k0 hb hrow hin2 hs2).mono ?_; rintro r w2 ⟨rfl, hs3⟩
  go_wp2_with fail
  go_ret
  exact ⟨rfl, hs3.use (by intro x; simp only [cnt_append, cnt_cons, cnt_nil]; omega)⟩

set_option maxRecDepth 100000 in
theorem code_anyO (b : Nat) (v : Value) (os : List (Option ET)) (W w : World) (T F : List Atom) (hb : cellsA b #[v] 60 ∈ T) (hrow : InRow T v (os.map oval)) (hin2 : ∀ e, some e ∈ os → In T e) (hG : ErrT w) (hs : Sat W w (T ++ F)) :
    Calls Tryd.prog 16 #[.iface 58 (.pointer (some ⟨b, 0, none⟩))] w fun r w' => r = .returned (.int .i64 ((codeO os).getD 8)) ∧ Sat W w' (T ++ F) := by
  have u4 := val_nil (.all b v [])
  have u5 := guard_nil (.all b v [])
  rw [show val (.all b v []) = .iface 58 (.pointer (some ⟨b, 0, none⟩)) from rfl] at u4 u5
  have hs1 := hs.newCells #[.int .i64 0] 29
  have hG1 : ErrT (w.alloc (.cells #[.int .i64 0] 29)) := by
    unfold ErrT at hG ⊢
    exact cell?_alloc_some' _ hG
  have hG0 : w.cell? ⟨0, 0, none⟩ = some (.iface 96 (.agg #[H 27])) := hG
  clear hG hG0 hs
  go_enter Tryd.func16, Tryd.ntmps16
  go_wp2_with fail
  refine (As_codeO b v os W _ T F w.heap.size (.int .i64 0) hb hrow hin2 hG1 hs1).mono ?_; rintro r w2 ⟨rfl, hs2⟩
  cases hc : codeO os with
  | none =>
    have HC := Lib.hid hc
    clear hc
    go_wp2_with fail
    go_ret
    exact ⟨by simp [HC.out], hs2.tail⟩
  | some n =>
    rw [hc] at hs2
    have c0 : w2.cell? ⟨w.heap.size, 0, none⟩ = some (.int .i64 n) := hs2.cell m0 0
    have HC := Lib.hid hc
    clear hc
    go_wp2_with fail
    go_ret
    exact ⟨by simp [HC.out], hs2.tail⟩
end Go.Proofs.YtoknokbbggnmjaaDoor.Ca
