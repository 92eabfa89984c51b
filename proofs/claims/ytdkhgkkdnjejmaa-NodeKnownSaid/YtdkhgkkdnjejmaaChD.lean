/-
  mark.Seal.
-/
import Derived.Test.YtdkhgkkdnjejmaaChC
import Derived.Laws.CopyRow
namespace Go.Proofs.Ytdkhgkkdnjejmaa.Ch
set_option linter.unusedSimpArgs false
open Go Go.RowKit Go.Sl Go.BigFrame
set_option linter.unusedVariables false

/-- The head of a block: kind, length, body, nothing. -/
def headB (kind : Int) (body : List UInt8) : List UInt8 :=
  byteAt kind 0 :: byteAt body.length 1 :: byteAt body.length 0 :: (body ++ List.replicate (153 - body.length) 0)
theorem headB_length (kind : Int) (body : List UInt8) (h : body.length ≤ 153) : (headB kind body).length = 156 := by
  simp [headB]; omega
/-- mark.Seal. -/
def sealB (kind : Int) (body : List UInt8) : List UInt8 := headB kind body ++ bytesB (sumB (headB kind body)) 4
theorem sealB_length (kind : Int) (body : List UInt8) (h : body.length ≤ 153) : (sealB kind body).length = 160 := by
  rw [sealB, List.length_append, headB_length _ _ h, bytesB_length]

/-- A row's cells written over from one place on. -/
theorem splice_mid {α : Type} (C : List α) (o j k : Nat) (xs ys : List α) (h : (C.drop o).take xs.length = xs) (hk : ys.length = k) (hj : j + k ≤ xs.length) (hC : o + xs.length ≤ C.length) :
    ((C.take (o + j) ++ ys ++ C.drop (o + j + k)).drop o).take xs.length = xs.take j ++ ys ++ xs.drop (j + k) := by
  apply List.ext_getElem?
  intro i
  have hx : ∀ i, i < xs.length → C[o + i]? = xs[i]? := fun i hi => by
    have := congrArg (fun l => l[i]?) h
    simpa [hi] using this
  have e1 : min (o + j) C.length = o + j := by omega
  have e2 : min j xs.length = j := by omega
  simp only [List.getElem?_take, List.getElem?_drop, List.getElem?_append, List.length_take, List.length_append, e1, e2, hk]
  by_cases h1 : i < xs.length
  · rw [if_pos h1]
    by_cases h2 : i < j
    · rw [if_pos (by omega), if_pos (by omega), if_pos (by omega), if_pos (by omega), if_pos (by omega), if_pos h2, hx i h1]
    · by_cases h3 : i < j + k
      · rw [if_pos (by omega), if_neg (by omega), if_pos (by omega), if_neg (by omega)]
        congr 1; omega
      · rw [if_neg (by omega), if_neg (by omega), ← hx _ (by omega)]
        congr 1; omega
  · rw [if_neg h1, if_neg (by omega)]
    exact (List.getElem?_eq_none (by omega)).symm
theorem row_splice {W w : World} {g : Nat} {e : TypeId} {off len : Nat} {xs : List Value} {F : List Atom} (hs : Sat W w ((g, rowP e off len xs) :: F)) (j : Nat) (ys : List Value) (hj : j + ys.length ≤ xs.length) :
    ∃ cur, w.heap[g]? = some (.cells cur e (0, 0)) ∧ off + xs.length ≤ cur.size ∧
      Sat W (w.setRow g (cur.toList.take (off + j) ++ ys ++ cur.toList.drop (off + j + ys.length)).toArray) ((g, rowP e off len (xs.take j ++ ys ++ xs.drop (j + ys.length))) :: F) := by
  obtain ⟨o, ho, cur, rfl, h1, h2, h3⟩ := hs.head
  refine ⟨cur, ho, by omega, ?_⟩
  have hl : (xs.take j ++ ys ++ xs.drop (j + ys.length)).length = xs.length := by simp; omega
  refine hs.turn ⟨rfl, rfl, rfl, by simp [World.setRow]⟩ (fun k _ hk => setRow_other w g k _ hk) ⟨_, setRow_heap w g cur _ e _ ho, _, rfl, ?_, by rw [hl]; exact h2, ?_⟩
  · simp; omega
  · rw [hl]
    exact splice_mid _ _ _ _ _ _ h3 rfl hj (by simp; omega)
theorem run_copy_any {P : Program} {W w : World} {g : Nat} {e : TypeId} {off len : Nat} {xs : List Value} {F : List Atom} (hs : Sat W w ((g, rowP e off len xs) :: F)) (dT sT ty elem : TypeId) (hu : P.underlying dT = some (.slice elem)) (hz : (P.info? elem).map (·.size) = some 1)
    (j : Nat) (ys : List Value) (m : Nat) (hm : ys.length = m) (hj : j + m ≤ xs.length) (sv : Value) (hr : Reads w sv m ys) (h1 : ∀ v ∈ ys, v.oneCell' = true) (dLen dCap : Nat) (hd : m ≤ dLen) :
    ∃ w', (Builtin.copy_ #[dT, sT] ty #[.slice (some ⟨g, off + j, none⟩) dLen dCap, sv]).run P w = .ok (goInt m) w' ∧ Sat W w' ((g, rowP e off len (xs.take j ++ ys ++ xs.drop (j + m))) :: F) := by
  subst hm
  rcases hr with ⟨rfl, h2, h3⟩ | ⟨a, c, rfl, hc⟩
  · subst h3
    refine ⟨w, run_copy_nil P w dT sT ty elem _ dLen dCap hu (by cases h : P.info? elem <;> simp_all), ?_⟩
    simpa using hs
  · obtain ⟨cur, hg, hsz, hs2⟩ := row_splice hs j ys hj
    exact ⟨_, run_copy_row P w dT sT ty elem g (off + j) dLen dCap a ys.length c cur e ys hu hz hg (by simp [Nat.min_eq_left hd]) hc (by omega) h1, hs2⟩

theorem infoU8s : (Try.prog.info? 5).map (·.size) = some 1 := by kernel_rfl
theorem wp_copy_u8 {W w : World} {F : List Atom} {o : Oper} {a : Act} {K : Act → World → Prop} {Q : Exit → Act → World → Prop} {x y : Operand} {g off len : Nat} {xs : List Value} {sv : Value} (ho : o.op = .call { callee := .builtin .copy, args := #[x, y], argTypes := #[32, 32] })
    (hs : Sat W w ((g, rowP 5 off len xs) :: F)) (j : Nat) (m : List UInt8) (dLen dCap : Nat) (hx : a.eval x = .slice (some ⟨g, off + j, none⟩) dLen dCap) (hy : a.eval y = sv) (hj : j + m.length ≤ xs.length) (hr : Reads w sv m.length (bts m)) (hd : m.length ≤ dLen)
    (h : ∀ w', Sat W w' ((g, rowP 5 off len (xs.take j ++ bts m ++ xs.drop (j + m.length))) :: F) → K (a.put o.dst (goInt m.length)) w') : o.wp Try.prog a w K Q := by
  obtain ⟨w', h1, h2⟩ := run_copy_any (P := Try.prog) hs 32 32 o.type 5 Try.underlying32 infoU8s j (bts m) m.length (bts_length m) hj sv hr (bts_one m) dLen dCap hd
  exact wp_copy ho (by rw [hx, hy]; exact h1) (h _ h2)

theorem head_cat (a b c : UInt8) (m : List UInt8) (n : Nat) : (bts (a :: b :: c :: List.replicate n 0)).take 3 ++ bts m ++ (bts (a :: b :: c :: List.replicate n 0)).drop (3 + m.length) = bts (a :: b :: c :: (m ++ List.replicate (n - m.length) 0)) := by
  rw [Nat.add_comm 3]
  simp [bts]
/-- A refused body. -/
theorem seal_bad (kind : Int) (bv : Value) (m : List UInt8) (w : World) (hr : Reads w bv m.length (bts m)) (h : kind < 1 ∨ 255 < kind ∨ 153 < m.length) :
    Calls Try.prog 66 #[.int .i64 kind, bv] w fun e w' => e = .returned (.tuple #[.slice none 0 0, .int .i64 1]) ∧ w = w' := by
  obtain ⟨av, cv, rfl⟩ : ∃ a c, bv = .slice a m.length c := by
    rcases hr with ⟨h1, h2, _⟩ | ⟨a, c, h1, _⟩
    · exact ⟨_, _, by rw [h1, h2]⟩
    · exact ⟨_, _, h1⟩
  clear hr
  by_cases h1 : kind < 1
  · have d1 : decide (kind < 1) = true := by simp; omega
    go_enter Try.func66, Try.ntmps66
    go_wp2_with fail
    go_ret2
    exact ⟨rfl, rfl⟩
  · have d1 : decide (kind < 1) = false := by simp; omega
    by_cases h2 : 255 < kind
    · have d2 : decide (255 < kind) = true := by simp; omega
      go_enter Try.func66, Try.ntmps66
      go_wp2_with fail
      go_ret2
      exact ⟨rfl, rfl⟩
    · have d2 : decide (255 < kind) = false := by simp; omega
      have h3 : (153 : Int) < m.length := by omega
      go_enter Try.func66, Try.ntmps66
      go_wp2_with fail
      go_ret2
      exact ⟨rfl, rfl⟩
set_option maxRecDepth 100000 in
set_option maxHeartbeats 2000000 in
theorem seal_any (kind : Int) (bv : Value) (m : List UInt8) (W w : World) (L : List Atom) (hk1 : 1 ≤ kind) (hk2 : kind ≤ 255) (hm : m.length ≤ 153) (hr : Reads w bv m.length (bts m)) (hs : Sat W w L) :
    Calls Try.prog 66 #[.int .i64 kind, bv] w fun e w' => ∃ v R, e = .returned (.tuple #[v, .int .i64 0]) ∧ RowA 5 1 v (sealB kind m).length (bts (sealB kind m)) R ∧ Sat W w' (R ++ L) := by
  obtain ⟨B, hB⟩ : ∃ B, B = sealB kind m := ⟨_, rfl⟩
  rw [← hB]
  have hmk : ∀ w : World, (Instr.makeSlice 32 (.int .i64 156) (.int .i64 156)).run Try.prog w = .ok (.slice (some ⟨w.heap.size, 0, none⟩) 156 156) (w.alloc (.cells (madeCells #[.int .u8 0] 156) 5)) := run_make_row' (P := Try.prog) 32 5 (.int .u8 0) 1 (by kernel_rfl) (by kernel_rfl) rfl .i64 .i64 156 (by omega) (by omega)
  obtain ⟨av, cv, rfl⟩ : ∃ a c, bv = .slice a m.length c := by
    rcases hr with ⟨h1, h2, _⟩ | ⟨a, c, h1, _⟩
    · exact ⟨_, _, by rw [h1, h2]⟩
    · exact ⟨_, _, h1⟩
  have d1 : decide (kind < 1) = false := by simp; omega
  have d2 : decide (255 < kind) = false := by simp; omega
  have d3 : (m.length : Int) ≤ 153 := by omega
  obtain ⟨Z, hZ⟩ : ∃ Z, Z = madeCells #[.int .u8 0] 156 := ⟨_, rfl⟩
  rw [← hZ] at hmk
  have hZl : Z.toList = List.replicate 156 (.int .u8 0) := by rw [hZ, toList_madeCells_one]
  have hZs : Z.size = 156 := by rw [← Array.length_toList, hZl]; simp
  have z0 : Z[0]? = some (.int .u8 0) := by rw [← Array.getElem?_toList, hZl]; rfl
  have z1 : Z[1]? = some (.int .u8 0) := by rw [← Array.getElem?_toList, hZl]; rfl
  have z2 : Z[2]? = some (.int .u8 0) := by rw [← Array.getElem?_toList, hZl]; rfl
  clear hZ
  have hm0 : (byteAt (m.length : Int) 0 : UInt8).toNat = m.length := by
    have := byteAt_val (m.length : Int) 0
    omega
  have hm1 : ((byteAt (m.length : Int) 1).toNat : Int) = (m.length : Int) / 256 := by
    have := byteAt_val (m.length : Int) 1
    omega
  have hk0 : ((byteAt kind 0).toNat : Int) = kind := by
    have := byteAt_val kind 0
    omega
  have hs0 : Sat W (w.alloc (.cells (((Z.setIfInBounds 0 (.int .u8 kind)).setIfInBounds 1 (.int .u8 ((m.length : Int) / 256))).setIfInBounds 2 (.int .u8 m.length)) 5)) ((w.heap.size, rowP 5 0 (156 * 1) (bts (byteAt kind 0 :: byteAt m.length 1 :: byteAt m.length 0 :: List.replicate 153 0))) :: L) := by
    refine hs.new _ ⟨_, rfl, by simp [hZs], by simp [bts], ?_⟩
    rw [List.drop_zero, Array.toList_setIfInBounds, Array.toList_setIfInBounds, Array.toList_setIfInBounds, hZl, List.take_of_length_le (by simp [bts])]
    simp only [bts, List.map_cons, hk0, hm1, hm0]
    rfl
  have hr0 := hr.grown ((Below.refl _ w).alloc (Nat.le_refl _) (.cells (((Z.setIfInBounds 0 (.int .u8 kind)).setIfInBounds 1 (.int .u8 ((m.length : Int) / 256))).setIfInBounds 2 (.int .u8 m.length)) 5))
  have hcat : (bts (byteAt kind 0 :: byteAt m.length 1 :: byteAt m.length 0 :: List.replicate 153 0)).take 3 ++ bts m ++ (bts (byteAt kind 0 :: byteAt m.length 1 :: byteAt m.length 0 :: List.replicate 153 0)).drop (3 + m.length) = bts (headB kind m) := head_cat _ _ _ m 153
  obtain ⟨w2, hcp, hs2⟩ := run_copy_any (P := Try.prog) hs0 32 32 3 5 Try.underlying32 infoU8s 3 (bts m) m.length (bts_length m) (by simp [bts] <;> omega) _ hr0 (bts_one m) 153 153 hm
  rw [Nat.zero_add] at hcp
  rw [hcat] at hs2
  clear hZl hZs hk0 hm1 hm0 hs hr hs0 hr0 hcat
  go_enter Try.func66, Try.ntmps66
  go_wp2_with fail
  have hrow : RowA 5 1 (.slice (some ⟨w.heap.size, 0, none⟩) 156 156) (headB kind m).length (bts (headB kind m)) [(w.heap.size, rowP 5 0 (156 * 1) (bts (headB kind m)))] := by
    refine ⟨by rw [bts_length]; omega, .inr ⟨_, _, _, ?_, ?_, ?_, rfl⟩⟩
    · rw [headB_length _ _ hm]
    · rw [headB_length _ _ hm]; exact Nat.le_refl _
    · unfold maxLen; omega
  refine (sum_any _ _ _ (hrow.reads hs2) (by rw [headB_length _ _ hm]; omega)).mono ?_; rintro r w4 ⟨rfl, rfl⟩
  obtain ⟨q1, q2⟩ := sumB_bounds (headB kind m)
  have hB2 : headB kind m ++ bytesB (sumB (headB kind m)) 4 = B := hB.symm
  have hl : (headB kind m).length = 156 := headB_length _ _ hm
  clear hB hcp hmk z0 z1 z2
  generalize headB kind m = H at *
  generalize sumB H = S at *
  have HB := Lib.hid hB2
  have HL := Lib.hid hl
  have q3 : S < 4294967296 := by omega
  clear hB2 hl q2
  go_wp2_with (at_builtin; refine wpList_plain rfl (fun K hK => ?_); refine wp_append_u8 rfl H (bytesB S 4) rfl rfl hrow (sat_new hs2) (reads_new w2 _ _ _ _ _ (by simp [bts, bytesB, byteAt_val]; omega)) (by rw [HL.out, bytesB_length]; omega) (fun v2 w3 R2 hr2 hs3 => ?_); refine hK _ _ ?_; simp only [Act.put, List.setIfInBounds_toArray, List.set_cons_zero, List.set_cons_succ]; clear hK)
  go_ret2
  refine ⟨v2, R2, rfl, ?_, hs3.use (by intro x; simp only [cnt_append, cnt_cons, cnt_nil]; omega)⟩
  rw [← HB.out]
  exact hr2
end Go.Proofs.Ytdkhgkkdnjejmaa.Ch
