/-
  Rows of blocks; appends at any type; slices.Clone of blocks; platter.blank.
-/
import Derived.Test.YtdkhgkkdnjejmaaChM
namespace Go.Proofs.Ytdkhgkkdnjejmaa.Ch
set_option linter.unusedSimpArgs false
open Go Go.RowKit Go.Sl Go.BigFrame
set_option linter.unusedVariables false

/-- append at any type of elements. -/
theorem wp_append_g {W w : World} {F A : List Atom} {v sv : Value} {o : Oper} {a : Act} {K : Act → World → Prop} {Q : Exit → Act → World → Prop} {t e : TypeId} {size bytes : Nat} {z : Value} (hu : Try.prog.underlying t = some (.slice e)) (hinf : (Try.prog.info? e).map (fun i => (i.zero, i.size, i.bytes)) = some (some z, size, bytes)) (hzs : z.cells.size = size) (hsz : 0 < size) (hby : bytes ≤ 1000)
    {x y : Operand} (ho : o.op = .call { callee := .builtin .append, args := #[x, y], argTypes := #[t, t] }) {n m : Nat} {xs ys : List Value} (hv : a.eval x = v) (hsv : a.eval y = sv)
    (hr : RowA e size v n xs A) (hs : Sat W w (A ++ F)) (hsrc : Reads w sv m ys) (hl : ys.length = m * size) (h1 : ∀ u ∈ ys, u.oneCell' = true) (hb : n + m < 1000000)
    (h : ∀ v' w' A', RowA e size v' (n + m) (xs ++ ys) A' → Sat W w' (A' ++ F) → K (a.put o.dst v') w') : o.wp Try.prog a w K Q := by
  obtain ⟨i0, hi, hz0, hz1, hz2⟩ := info_parts hinf
  obtain ⟨v2, w2, R2, hra, hrow, hs2⟩ := append_sl (P := Try.prog) o.type hu hi hz0 hz1 hz2 hzs hsz hr hs hsrc hl h1 (by unfold maxLen; omega) (by
    have : (n + m) * bytes ≤ 1000000 * 1000 := Nat.mul_le_mul (by omega) hby
    omega)
  exact wp_append ho (by rw [hv, hsv]; exact hra) (h _ _ _ hrow hs2)
theorem infoBl : (Try.prog.info? 32).map (fun i => (i.zero, i.size, i.bytes)) = some (some (.slice none 0 0), 1, 24) := by kernel_rfl
theorem infoWr : (Try.prog.info? 114).map (fun i => (i.zero, i.size, i.bytes)) = some (some (.agg #[.int .i64 0, .slice none 0 0]), 2, 32) := by kernel_rfl

/-- The value is a block among B, with bytes l. -/
def BlkIn (B : List Atom) (v : Value) (l : List UInt8) : Prop :=
  ∃ g off cap, v = .slice (some ⟨g, off, none⟩) l.length cap ∧ l.length ≤ cap ∧ (g, rowP 5 off (cap * 1) (bts l)) ∈ B
theorem BlkIn.mono {B B' : List Atom} {v : Value} {l : List UInt8} (h : BlkIn B v l) (hs : ∀ x ∈ B, x ∈ B') : BlkIn B' v l := by
  obtain ⟨g, off, cap, h1, h2, h3⟩ := h
  exact ⟨g, off, cap, h1, h2, hs _ h3⟩
theorem BlkIn.reads {W y : World} {B L : List Atom} {v : Value} {l : List UInt8} (h : BlkIn B v l) (hs : Sat W y L) (hb : ∀ x ∈ B, x ∈ L) : Reads y v l.length (bts l) := by
  obtain ⟨g, off, cap, h1, h2, h3⟩ := h
  obtain ⟨o, ho, hp⟩ := hs.get (hb _ h3)
  refine .inr ⟨_, _, h1, fun j u hu => ?_⟩
  have hj := (List.getElem?_eq_some_iff.1 hu).1
  rw [add_row, (hp.cell ho j hj).1, hu]
theorem BlkIn.one {B : List Atom} {v : Value} {l : List UInt8} (h : BlkIn B v l) : v.oneCell' = true := by
  obtain ⟨g, off, cap, h1, h2, h3⟩ := h
  rw [h1]; rfl
theorem BlkIn.of_row {v : Value} {l : List UInt8} {R : List Atom} (h : RowA 5 1 v l.length (bts l) R) (hl : 0 < l.length) : BlkIn R v l := by
  rcases h.2 with ⟨_, h2, _⟩ | ⟨g, off, cap, h1, h2, h3, rfl⟩
  · omega
  · exact ⟨g, off, cap, h1, h2, List.mem_singleton.2 rfl⟩
/-- Values that are blocks. -/
structure Blks (B : List Atom) (vs : List Value) (ls : List (List UInt8)) : Prop where
  len : vs.length = ls.length
  at_ : ∀ (k : Nat) (v : Value) (l : List UInt8), vs[k]? = some v → ls[k]? = some l → BlkIn B v l
theorem Blks.mono {B B' : List Atom} {vs : List Value} {ls : List (List UInt8)} (h : Blks B vs ls) (hs : ∀ x ∈ B, x ∈ B') : Blks B' vs ls := ⟨h.len, fun k v l h1 h2 => (h.at_ k v l h1 h2).mono hs⟩
theorem Blks.nil (B : List Atom) : Blks B [] [] := ⟨rfl, fun k v l h => by simp at h⟩
theorem Blks.one {B : List Atom} {vs : List Value} {ls : List (List UInt8)} (h : Blks B vs ls) : ∀ u ∈ vs, u.oneCell' = true := fun u hu => by
  obtain ⟨k, hk, rfl⟩ := List.getElem_of_mem hu
  exact (h.at_ k _ _ (List.getElem?_eq_getElem hk) (List.getElem?_eq_getElem (by rw [← h.len]; exact hk))).one
theorem Blks.get {B : List Atom} {vs : List Value} {ls : List (List UInt8)} (h : Blks B vs ls) {k : Nat} {l : List UInt8} (hk : ls[k]? = some l) : ∃ v, vs[k]? = some v ∧ BlkIn B v l := by
  have hlt := (List.getElem?_eq_some_iff.1 hk).1
  exact ⟨_, List.getElem?_eq_getElem (by rw [h.len]; exact hlt), h.at_ k _ _ (List.getElem?_eq_getElem (by rw [h.len]; exact hlt)) hk⟩
theorem Blks.snoc {B : List Atom} {vs : List Value} {ls : List (List UInt8)} {v : Value} {l : List UInt8} (h : Blks B vs ls) (hv : BlkIn B v l) : Blks B (vs ++ [v]) (ls ++ [l]) := by
  refine ⟨by simp [h.len], fun k u m h1 h2 => ?_⟩
  by_cases hk : k < vs.length
  · rw [List.getElem?_append_left hk] at h1
    rw [List.getElem?_append_left (by rw [← h.len]; exact hk)] at h2
    exact h.at_ k u m h1 h2
  · rw [List.getElem?_append_right (by omega)] at h1
    rw [List.getElem?_append_right (by rw [← h.len]; omega), ← h.len] at h2
    generalize k - vs.length = j at *
    cases j with
    | zero => simp at h1 h2; subst h1; subst h2; exact hv
    | succ j => simp at h1
theorem Blks.set {B : List Atom} {vs : List Value} {ls : List (List UInt8)} {v : Value} {l : List UInt8} (h : Blks B vs ls) (k : Nat) (hv : BlkIn B v l) : Blks B (vs.set k v) (ls.set k l) := by
  refine ⟨by simp [h.len], fun j u m h1 h2 => ?_⟩
  by_cases e : k = j
  · subst e
    rw [List.getElem?_set] at h1 h2
    simp only [if_true] at h1 h2
    split at h1 <;> split at h2 <;> simp at h1 h2
    subst h1; subst h2; exact hv
  · rw [List.getElem?_set_ne e] at h1 h2
    exact h.at_ j u m h1 h2

theorem none_rowT (T : TypeId) (size n : Nat) : RowA T size (.slice (some ⟨n, 0, none⟩) 0 0) 0 [] [(n, rowP T 0 (0 * size) [])] :=
  ⟨by simp, .inr ⟨_, _, _, rfl, Nat.le_refl _, Nat.zero_le _, rfl⟩⟩
theorem none_satT {W w : World} {L : List Atom} (hs : Sat W w L) (T : TypeId) (size : Nat) : Sat W (w.alloc (.cells #[] T)) ([(w.heap.size, rowP T 0 (0 * size) [])] ++ L) :=
  hs.new (.cells #[] T) ⟨#[], rfl, by simp, by simp, by simp⟩

set_option maxRecDepth 100000 in
set_option maxHeartbeats 2000000 in
theorem clone_bl (v : Value) (xs : List Value) (W w : World) (L : List Atom) (hr : Reads w v xs.length xs) (h1 : ∀ u ∈ xs, u.oneCell' = true) (hl : xs.length < 1000000) (hs : Sat W w L) :
    Calls Try.prog 80 #[v] w fun e w' => ∃ v' R, e = .returned v' ∧ RowA 32 1 v' xs.length xs R ∧ Sat W w' (R ++ L) := by
  have q32 : ∀ (w : World) (a : Option Addr) (n c n' c' : Nat), (binOp .eql 103 (.slice a n c) (.slice none n' c')).run Try.prog w = .ok (.bool a.isNone) w := fun w a n c n' c' => Go.Lib.run_eql_slice_nil w _ _ a n c n' c' Try.underlying103
  rcases hr with ⟨rfl, h2, h3⟩ | ⟨a, c, rfl, hc⟩
  · have : xs = [] := List.length_eq_zero_iff.1 h2
    subst this
    go_enter Try.func80, Try.ntmps80
    go_wp2_with fail
    go_ret
    first
      | exact ⟨_, _, rfl, RowA.nil _ _, hs⟩
      | exact ⟨_, rfl, _, RowA.nil _ _, hs⟩
  · have hr : Reads w (.slice (some a) xs.length c) xs.length xs := .inr ⟨_, _, rfl, hc⟩
    have hr0 := hr.grown ((Below.refl _ w).alloc (Nat.le_refl _) (.cells #[] 32))
    clear hc hr
    go_enter Try.func80, Try.ntmps80
    go_wp2_with (at_builtin; refine wpList_plain rfl (fun K hK => ?_); refine wp_append_g Try.underlying103 infoBl rfl (by decide) (by decide) rfl rfl rfl (none_rowT _ 1 _) (none_satT hs _ 1) hr0 (by simp) h1 (by omega) (fun v2 w3 R2 hr2 hs3 => ?_); refine hK _ _ ?_; simp only [Act.put, List.setIfInBounds_toArray, List.set_cons_zero, List.set_cons_succ]; clear hK)
    go_ret
    refine ⟨v2, R2, rfl, ?_, hs3⟩
    simpa using hr2

def zero160 : List UInt8 := List.replicate 160 0
set_option maxRecDepth 100000 in
set_option maxHeartbeats 2000000 in
theorem blank_any (n : Nat) (W w : World) (L : List Atom) (hn : n ≤ 1000) (hs : Sat W w L) :
    Calls Try.prog 65 #[.int .i64 n] w fun e w' => ∃ v vs R B, e = .returned v ∧ RowA 32 1 v n vs R ∧ Blks B vs (List.replicate n zero160) ∧ Sat W w' (R ++ (B ++ L)) := by
  have n0 : (0 : Int) ≤ n := by omega
  have hmk : ∀ w : World, (Instr.makeSlice 32 (.int .i64 160) (.int .i64 160)).run Try.prog w = .ok (.slice (some ⟨w.heap.size, 0, none⟩) 160 160) (w.alloc (.cells (madeCells #[.int .u8 0] 160) 5)) := run_make_row' (P := Try.prog) 32 5 (.int .u8 0) 1 (by kernel_rfl) (by kernel_rfl) rfl .i64 .i64 160 (by omega) (by omega)
  obtain ⟨Z, hZ⟩ : ∃ Z, Z = madeCells #[.int .u8 0] 160 := ⟨_, rfl⟩
  rw [← hZ] at hmk
  have hZl : Z.toList = bts zero160 := by rw [hZ, toList_madeCells_one]; simp [bts, zero160]
  have HZ := Lib.hid hZl
  have hz160 : zero160.length = 160 := by simp [zero160]
  have HZ160 := Lib.hid hz160
  clear hZ hZl hz160
  go_enter Try.func65, Try.ntmps65
  go_wp2_with fail
  go_loopw [5, 3] (fun kv ov wr => ∃ (k : Nat) (vs : List Value) (R B : List Atom), kv = .int .i64 k ∧ k ≤ n ∧ RowA 32 1 ov k vs R ∧ Blks B vs (List.replicate k zero160) ∧ Sat W wr (R ++ (B ++ L))) (fun kv _ _ => (n - (intOf kv).toNat))
  case atStart => exact ⟨0, [], [], [], rfl, Nat.zero_le _, RowA.nil _ _, Blks.nil _, hs⟩
  case round =>
    clear hs
    obtain ⟨k, vs, R, B, rfl, hk, hr, hb, hs⟩ := hrel
    have k0 : (0 : Int) ≤ k := by omega
    obtain ⟨a3, c3, rfl⟩ := Ch.RowA.slice hr
    by_cases hkn : k < n
    · have k1 : (k : Int) < n := by omega
      have k2 : (k : Int) < 1000 := by omega
      have hs1 : Sat W (wr.alloc (.cells Z 5)) ((wr.heap.size, rowP 5 0 (160 * 1) (bts zero160)) :: (R ++ (B ++ L))) := by
        refine hs.new _ ⟨Z, rfl, ?_, ?_, ?_⟩
        · rw [← Array.length_toList, HZ.out, bts_length, HZ160.out]; decide
        · rw [bts_length, HZ160.out]; decide
        · rw [List.drop_zero, HZ.out]; exact List.take_of_length_le (by simp)
      have hs2 := hs1.newCells #[.slice (some ⟨wr.heap.size, 0, none⟩) 160 160] 32
      have hs3 : Sat W _ (R ++ (cellsA (wr.alloc (.cells Z 5)).heap.size #[.slice (some ⟨wr.heap.size, 0, none⟩) 160 160] 32 :: ((wr.heap.size, rowP 5 0 (160 * 1) (bts zero160)) :: (B ++ L)))) := hs2.use (by intro x; simp only [cnt_append, cnt_cons, cnt_nil]; omega)
      have hsrc := reads_cells hs2 m0 1 1 [.slice (some ⟨wr.heap.size, 0, none⟩) 160 160] rfl
      have hsz : (wr.alloc (.cells Z 5)).heap.size = wr.heap.size + 1 := by simp
      rw [hsz] at hs3 hsrc
      clear hsz
      have hbi : BlkIn ([(wr.heap.size, rowP 5 0 (160 * 1) (bts zero160))] ++ B) (.slice (some ⟨wr.heap.size, 0, none⟩) 160 160) zero160 := ⟨_, _, _, by rw [HZ160.out], by rw [HZ160.out]; exact Nat.le_refl _, List.mem_append_left _ (List.mem_singleton.2 rfl)⟩
      have hb2 := (hb.mono (B' := [(wr.heap.size, rowP 5 0 (160 * 1) (bts zero160))] ++ B) (fun x hx => List.mem_append_right _ hx)).snoc hbi
      rw [← List.replicate_succ'] at hb2
      clear hs hs1 hs2 hbi hb
      go_wp2_with (at_builtin; refine wpList_plain rfl (fun K hK => ?_); refine wp_append_g Try.underlying103 infoBl rfl (by decide) (by decide) rfl rfl rfl hr hs3 hsrc (by simp) (by simp [Value.oneCell']) (by omega) (fun v2 w3 R2 hr2 hs4 => ?_); refine hK _ _ ?_; simp only [Act.put, List.setIfInBounds_toArray, List.set_cons_zero, List.set_cons_succ]; clear hK)
      refine ⟨⟨k + 1, _, R2, _, by simp, by omega, hr2, hb2, hs4.use (by intro x; simp only [cnt_append, cnt_cons, cnt_nil]; omega)⟩, ?_⟩
      simp [intOf]
      omega
    · have e : n = k := by omega
      subst e
      go_wp2_with fail
      go_ret
      exact ⟨_, vs, R, B, rfl, hr, hb, hs⟩
end Go.Proofs.Ytdkhgkkdnjejmaa.Ch
