/-
  Package pick: the items' Push and Pop.
-/
import Derived.Test.YtelcaeapflhadaaPkA
import Derived.Lib.Hide
namespace Go.Proofs.Ytelcaeapflhadaa.Pk
set_option linter.unusedSimpArgs false
open Go Go.RowKit Go.Sl Go.BigFrame
set_option linter.unusedVariables false

theorem RowA.slice {e : TypeId} {size n : Nat} {v : Value} {xs : List Value} {R : List Atom} (h : RowA e size v n xs R) : ∃ a c, v = .slice a n c := by
  rcases h.2 with ⟨h1, h2, _⟩ | ⟨g, off, cap, h1, _⟩
  · exact ⟨_, _, by rw [h1, h2]⟩
  · exact ⟨_, _, h1⟩

theorem RowA.cut {e : TypeId} {size n cap : Nat} {g off : Nat} {xs ys : List Value} {R : List Atom} (h : RowA e size (.slice (some ⟨g, off, none⟩) (n + 1) cap) (n + 1) (xs ++ ys) R) (hx : xs.length = n * size) :
    n + 1 ≤ cap ∧ cap ≤ maxLen ∧ R = [(g, rowP e off (cap * size) (xs ++ ys))] := by
  rcases h.2 with ⟨h1, _⟩ | ⟨g', off', cap', h1, h2, h3, h4⟩
  · cases h1
  · cases h1; exact ⟨h2, h3, h4⟩

theorem rowP.left {e : TypeId} {off len : Nat} {xs ys : List Value} {o : Obj} (h : rowP e off len (xs ++ ys) o) : rowP e off len xs o := by
  obtain ⟨cur, h1, h2, h3, h4⟩ := h
  refine ⟨cur, h1, h2, by simp at h3; omega, ?_⟩
  have := congrArg (List.take xs.length) h4
  rw [List.take_take, List.take_left] at this
  simpa [Nat.min_eq_left] using this

theorem Sat.weaken {W w : World} {b : Nat} {p q : Obj → Prop} {F : List Atom} (hs : Sat W w ((b, p) :: F)) (h : ∀ o, p o → q o) : Sat W w ((b, q) :: F) := by
  obtain ⟨o, ho, hp⟩ := hs.head
  exact hs.turn (Inert.refl w) (fun _ _ _ => rfl) ⟨o, ho, h o hp⟩

theorem idx_pop {f : Value → Option Value} {l : List It} {p : It} (hf : IdxOk f (l ++ [p])) : IdxOk (delV f (.int .i64 p.1)) l := by
  have inj : ∀ (a b : Nat) (u v : It), (l ++ [p])[a]? = some u → (l ++ [p])[b]? = some v → u.1 = v.1 → a = b := fun a b u v ha hb e => by
    have h1 := hf.2 a u ha
    have h2 := hf.2 b v hb
    rw [e, h2] at h1
    simp at h1
    omega
  have hp : (l ++ [p])[l.length]? = some p := by simp
  refine ⟨fun k v hk => ?_, fun k u hk => ?_⟩
  · by_cases h1 : k = .int .i64 p.1
    · rw [h1, delV_same] at hk; cases hk
    · rw [delV_other _ h1] at hk
      obtain ⟨c, u, hc, rfl, rfl⟩ := hf.1 k v hk
      refine ⟨c, u, ?_, rfl, rfl⟩
      rw [List.getElem?_append] at hc
      split at hc
      · exact hc
      · rename_i hlt
        have : c - l.length = 0 := by
          rcases Nat.eq_zero_or_pos (c - l.length) with e | e
          · exact e
          · rw [List.getElem?_eq_none (by simp; omega)] at hc; cases hc
        rw [this] at hc
        simp at hc
        subst hc
        exact absurd rfl h1
  · have hlt := (List.getElem?_eq_some_iff.1 hk).1
    have hk' : (l ++ [p])[k]? = some u := by rw [List.getElem?_append_left hlt]; exact hk
    rw [delV_other]
    · exact hf.2 k u hk'
    · intro e
      have := inj k l.length u p hk' hp (by simpa using e)
      omega

def itL (x g off n cap m : Nat) (f : Value → Option Value) (xs : List Value) (F : List Atom) : List Atom :=
  cellsA x #[.slice (some ⟨g, off, none⟩) n cap, .map (some m)] 55 :: mapA m (.int .i64) f n :: (g, rowP 28 off (cap * 2) xs) :: F

theorem items_pop (x : Nat) (l : List It) (p : It) (A F : List Atom) (W w : World) (hA : ItemsA x (l ++ [p]) A) (hs : Sat W w (A ++ F)) :
    Calls Try.prog 79 #[.pointer (some ⟨x, 0, none⟩)] w fun e w' => e = .returned (.iface 28 (.agg #[.int .i64 p.1, .int .i64 p.2])) ∧ ∃ A', ItemsA x l A' ∧ Sat W w' (A' ++ F) := by
  obtain ⟨v, m, f, R, hr, hf, rfl⟩ := hA
  have hl := flat_length l
  rw [flat_append] at hr
  have hlen : (l ++ [p]).length = l.length + 1 := by simp
  rw [hlen] at hr hs
  rcases hr.2 with ⟨rfl, hn, _⟩ | ⟨g, off, cap, rfl, hnc, hcm, rfl⟩
  · omega
  · have hgl : ∀ (y : Of W (itL x g off (l.length + 1) cap m f (flat l ++ flat [p]) F)) (k : Nat), k < 2 → y.v.cell? ⟨g, off + l.length * 2 + k, none⟩ = [Value.int .i64 p.1, .int .i64 p.2][k]? := fun y k hk => by
      obtain ⟨o, ho, hro⟩ := y.s.get m2
      rw [Nat.add_assoc, (hro.cell ho (l.length * 2 + k) (by rw [List.length_append, hl]; simp [flat]; omega)).1, List.getElem?_append_right (by omega)]
      rw [hl, Nat.add_sub_cancel_left]
      rfl
    have g0 : ∀ (y : Of W (itL x g off (l.length + 1) cap m f (flat l ++ flat [p]) F)), y.v.cell? ⟨g, off + l.length * 2, none⟩ = some (.int .i64 p.1) := fun y => hgl y 0 (by omega)
    have g1 : ∀ (y : Of W (itL x g off (l.length + 1) cap m f (flat l ++ flat [p]) F)), y.v.cell? ⟨g, off + l.length * 2 + 1, none⟩ = some (.int .i64 p.2) := fun y => hgl y 1 (by omega)
    have c0 : ∀ (y : Of W (itL x g off (l.length + 1) cap m f (flat l ++ flat [p]) F)), y.v.cell? ⟨x, 0, none⟩ = some (.slice (some ⟨g, off, none⟩) (l.length + 1) cap) := fun y => y.s.cell m0 0
    have b1 : (0 : Int) ≤ l.length := by omega
    have b2 : (l.length : Int) < 9223372036854775807 := by unfold maxLen at hcm; omega
    clear hgl
    go_enter Try.func79, Try.ntmps79
    go_wp2
    refine wp_region_held1 [12, 13] [0, 1, 2, 3, 4, 5, 6, 7, 8, 9, 10, 11] [0, 1, 2, 4, 5, 6, 9, 10] [12] [0, 1, 2, 3, 4, 5, 6, 7, 8, 9, 10, 11, 12, 13] (Held W (itL x g off (l.length + 1) cap m f (flat l ++ flat [p]) F)) (by kernel_rfl) (by kernel_rfl) ?_ ?_
    · exact Held.mk hs.drew
    have hne : Nonempty (Of W (itL x g off (l.length + 1) cap m f (flat l ++ flat [p]) F)) := ⟨⟨_, hs.drew⟩⟩
    repeat (first | (refine can_pu1 rfl rfl rfl rfl rfl rfl (fun K hK => ?_); go_big_quiet_op; refine hK _ ?_; clear hK K) | (refine can_st1 rfl rfl rfl rfl rfl rfl (fun K hK => ?_); go_big_quiet_op; refine hK _ ?_; clear hK K) | (refine can_early1 rfl rfl rfl rfl rfl (fun K hK => ?_); go_big_quiet_op; refine hK _ ?_; clear hK K) | (refine can_skip rfl rfl rfl ?_; simp only [Act.put, List.setIfInBounds_toArray, List.set_cons_zero, List.set_cons_succ]))
    have hsM := (Sat.newCells hs #[.int .i64 p.1, .int .i64 p.2] 28).drew
    refine can_actS rfl rfl rfl rfl (fun K hK => ?_)
    go_wp2
    refine ⟨Held.mk (hs.alloc _).drew, ?_⟩
    repeat (first | (refine can_pu1 rfl rfl rfl rfl rfl rfl (fun K hK => ?_); go_big_quiet_op; refine hK _ ?_; clear hK K) | (refine can_st1 rfl rfl rfl rfl rfl rfl (fun K hK => ?_); go_big_quiet_op; refine hK _ ?_; clear hK K) | (refine can_early1 rfl rfl rfl rfl rfl (fun K hK => ?_); go_big_quiet_op; refine hK _ ?_; clear hK K) | (refine can_skip rfl rfl rfl ?_; simp only [Act.put, List.setIfInBounds_toArray, List.set_cons_zero, List.set_cons_succ]))
    refine can_actF rfl rfl rfl rfl (fun K hK => ?_)
    go_wp2
    refine can_end1 ?_; (try simp only [Exit.then])
    refine with_sat hsM ?_
    have HZ := Lib.hid (show w.heap.size = w.heap.size from rfl)
    generalize w.heap.size = z
    clear HZ g0 g1 c0 hs hsM hne
    intro w hs
    have z0 : w.cell? ⟨z, 0, none⟩ = some (.int .i64 p.1) := hs.cell m0 0
    have z1 : w.cell? ⟨z, 1, none⟩ = some (.int .i64 p.2) := hs.cell m0 1
    have c0 : w.cell? ⟨x, 0, none⟩ = some (.slice (some ⟨g, off, none⟩) (l.length + 1) cap) := hs.cell m1 0
    have c1 : w.frozen? ⟨x, 0, none⟩ = false := hs.free m1 0
    have b3 : (l.length : Int) ≤ cap := by omega
    go_wp2
    refine wp_region_one [14] [] [] [] [0, 1, 2, 3, 4, 5, 6, 7, 8, 9, 10, 11, 12, 13, 14] (by kernel_rfl) (by kernel_rfl) ?_
    repeat (first | (refine can_pu1 rfl rfl rfl rfl rfl rfl (fun K hK => ?_); go_big_quiet_op; refine hK _ ?_; clear hK K) | (refine can_st1 rfl rfl rfl rfl rfl rfl (fun K hK => ?_); go_big_quiet_op; refine hK _ ?_; clear hK K) | (refine can_early1 rfl rfl rfl rfl rfl (fun K hK => ?_); go_big_quiet_op; refine hK _ ?_; clear hK K) | (refine can_skip rfl rfl rfl ?_; simp only [Act.put, List.setIfInBounds_toArray, List.set_cons_zero, List.set_cons_succ]))
    refine can_act1 rfl rfl rfl (fun K hK => ?_)
    go_wp2
    refine can_end1 ?_; (try simp only [Exit.then])
    have hs1 : Sat W w (cellsA x #[.slice (some ⟨g, off, none⟩) (l.length + 1) cap, .map (some m)] 55 :: cellsA z #[.int .i64 p.1, .int .i64 p.2] 28 :: mapA m (.int .i64) f (l.length + 1) :: (g, rowP 28 off (cap * 2) (flat l ++ flat [p])) :: F) := hs.use (by intro x; simp only [cnt_append, cnt_cons, cnt_nil]; omega)
    refine with_sat (Sat.setCell hs1 0 _).drew ?_
    clear c0 c1 z0 z1 hs hs1
    intro w hs
    simp only [List.setIfInBounds_toArray, List.set_cons_zero] at hs
    have z0 : w.cell? ⟨z, 0, none⟩ = some (.int .i64 p.1) := hs.cell m1 0
    have z1 : w.cell? ⟨z, 1, none⟩ = some (.int .i64 p.2) := hs.cell m1 1
    have c1 : w.cell? ⟨x, 1, none⟩ = some (.map (some m)) := hs.cell m0 1
    go_wp2
    refine wp_region_one [6] [] [] [] [0, 1, 2, 3, 4, 5, 6] (by kernel_rfl) (by kernel_rfl) ?_
    repeat (first | (refine can_pu1 rfl rfl rfl rfl rfl rfl (fun K hK => ?_); go_big_quiet_op; refine hK _ ?_; clear hK K) | (refine can_st1 rfl rfl rfl rfl rfl rfl (fun K hK => ?_); go_big_quiet_op; refine hK _ ?_; clear hK K) | (refine can_early1 rfl rfl rfl rfl rfl (fun K hK => ?_); go_big_quiet_op; refine hK _ ?_; clear hK K) | (refine can_skip rfl rfl rfl ?_; simp only [Act.put, List.setIfInBounds_toArray, List.set_cons_zero, List.set_cons_succ]))
    have hs1 : Sat W w.drew (mapA m (.int .i64) f (l.length + 1) :: cellsA x #[.slice (some ⟨g, off, none⟩) l.length cap, .map (some m)] 55 :: cellsA z #[.int .i64 p.1, .int .i64 p.2] 28 :: (g, rowP 28 off (cap * 2) (flat l ++ flat [p])) :: F) := hs.drew.use (by intro x; simp only [cnt_append, cnt_cons, cnt_nil]; omega)
    obtain ⟨w1, hr1, hs2⟩ := delete_sl (P := Try.prog) (t := 34) (key := .int .i64 p.1) hs1 Try.underlying34 Try.underlying3 rfl 3 0
    refine can_act1 rfl rfl rfl (fun K hK => ?_)
    go_wp2
    refine can_end1 ?_; (try simp only [Exit.then])
    have z0 : w1.cell? ⟨z, 0, none⟩ = some (.int .i64 p.1) := hs2.cell m2 0
    have z1 : w1.cell? ⟨z, 1, none⟩ = some (.int .i64 p.2) := hs2.cell m2 1
    clear c1 hs hs1
    go_wp2
    go_ret
    have f1 : f (.int .i64 p.1) = some (.int .i64 (l.length : Int)) := hf.2 l.length p (by simp)
    simp only [f1, Option.isSome_some, if_true, Nat.add_sub_cancel] at hs2
    refine ⟨rfl, _, ⟨_, m, _, _, ⟨flat_length l, .inr ⟨g, off, cap, rfl, by omega, hcm, rfl⟩⟩, idx_pop hf, rfl⟩, ?_⟩
    have hs3 : Sat W w1 ((g, rowP 28 off (cap * 2) (flat l ++ flat [p])) :: mapA m (.int .i64) (delV f (.int .i64 p.1)) l.length :: cellsA x #[.slice (some ⟨g, off, none⟩) l.length cap, .map (some m)] 55 :: F) := hs2.use (by intro x; simp only [cnt_append, cnt_cons, cnt_nil]; omega)
    exact (Sat.weaken hs3 fun o => rowP.left).use (by intro x; simp only [cnt_append, cnt_cons, cnt_nil]; omega)

theorem infoIt : (Try.prog.info? 28).map (fun i => (i.zero, i.size, i.bytes)) = some (some (.agg #[.int .i64 0, .int .i64 0]), 2, 16) := by kernel_rfl

theorem idx_push {f : Value → Option Value} {l : List It} {p : It} (hf : IdxOk f l) (hn : f (.int .i64 p.1) = none) : IdxOk (updV f (.int .i64 p.1) (.int .i64 l.length)) (l ++ [p]) := by
  refine ⟨fun k v hk => ?_, fun k u hk => ?_⟩
  · by_cases h1 : k = .int .i64 p.1
    · rw [h1, updV_same] at hk
      exact ⟨l.length, p, by simp, h1, (Option.some.inj hk).symm⟩
    · rw [updV_other _ _ h1] at hk
      obtain ⟨c, u, hc, rfl, rfl⟩ := hf.1 k v hk
      exact ⟨c, u, by rw [List.getElem?_append_left (List.getElem?_eq_some_iff.1 hc).1]; exact hc, rfl, rfl⟩
  · rw [List.getElem?_append] at hk
    split at hk
    · have h2 := hf.2 k u hk
      rw [updV_other _ _ (fun e => by rw [e, hn] at h2; cases h2)]
      exact h2
    · rename_i hlt
      have e0 : k = l.length := by
        rcases Nat.lt_or_ge l.length k with e | e
        · rw [List.getElem?_eq_none (by simp; omega)] at hk; cases hk
        · omega
      subst e0
      simp at hk
      subst hk
      exact updV_same ..

theorem items_push (x : Nat) (l : List It) (p : It) (A F : List Atom) (W w : World) (hA : ItemsA x l A) (hs : Sat W w (A ++ F)) (hn : ∀ q ∈ l, q.1 ≠ p.1) (hb : l.length < 1000000) :
    Calls Try.prog 80 #[.pointer (some ⟨x, 0, none⟩), .iface 28 (.agg #[.int .i64 p.1, .int .i64 p.2])] w fun e w' => e = .returned (.tuple #[]) ∧ ∃ A', ItemsA x (l ++ [p]) A' ∧ Sat W w' (A' ++ F) := by
  obtain ⟨v, m, f, R, hr, hf, rfl⟩ := hA
  have hfn : f (.int .i64 p.1) = none := by
    cases hfp : f (.int .i64 p.1) with
    | none => rfl
    | some u =>
      obtain ⟨j, q, hj, he, _⟩ := hf.1 _ _ hfp
      exact absurd (by simpa using he.symm) (hn q (List.mem_of_getElem? hj))
  have c0 : w.cell? ⟨x, 0, none⟩ = some v := hs.cell m0 0
  have c1 : w.cell? ⟨x, 1, none⟩ = some (.map (some m)) := hs.cell m0 1
  obtain ⟨off, n, cap, hv, hvl⟩ : ∃ a n cap, v = .slice a n cap ∧ n = l.length := by
    rcases hr.2 with ⟨rfl, h2, _⟩ | ⟨g, off, cap, rfl, _⟩
    · exact ⟨_, _, _, rfl, h2.symm⟩
    · exact ⟨_, _, _, rfl, rfl⟩
  subst hvl
  have b1 : (0 : Int) ≤ l.length := by omega
  have hta : ∀ w : World, (Instr.typeAssert (.iface 28 (.agg #[.int .i64 p.1, .int .i64 p.2])) 20 28 true).run Try.prog w = .ok (.tuple #[.agg #[.int .i64 p.1, .int .i64 p.2], .bool true]) w := fun w => by kernel_rfl
  go_enter Try.func80, Try.ntmps80
  go_wp2
  refine wp_region_one [11] [] [] [] [0, 1, 2, 3, 4, 5, 6, 7, 8, 9, 10, 11] (by kernel_rfl) (by kernel_rfl) ?_
  refine with_sat (Sat.newCells hs #[.int .i64 p.1, .int .i64 p.2] 28).drew ?_
  generalize w.heap.size = z
  clear c0 c1 hs
  intro w hs
  have c0 : w.cell? ⟨x, 0, none⟩ = some (.slice off l.length cap) := by rw [hs.cell m1 0, hv]; rfl
  have c1 : w.cell? ⟨x, 1, none⟩ = some (.map (some m)) := hs.cell m1 1
  have z0 : w.cell? ⟨z, 0, none⟩ = some (.int .i64 p.1) := hs.cell m0 0
  have hvv := Lib.hid hv
  clear hv
  repeat (first | (refine can_pu1 rfl rfl rfl rfl rfl rfl (fun K hK => ?_); go_big_quiet_op; refine hK _ ?_; clear hK K) | (refine can_st1 rfl rfl rfl rfl rfl rfl (fun K hK => ?_); go_big_quiet_op; refine hK _ ?_; clear hK K) | (refine can_early1 rfl rfl rfl rfl rfl (fun K hK => ?_); go_big_quiet_op; refine hK _ ?_; clear hK K) | (refine can_skip rfl rfl rfl ?_; simp only [Act.put, List.setIfInBounds_toArray, List.set_cons_zero, List.set_cons_succ]))
  have hs1 : Sat W w (mapA m (.int .i64) f l.length :: cellsA z #[.int .i64 p.1, .int .i64 p.2] 28 :: cellsA x #[v, .map (some m)] 55 :: R ++ F) := hs.use (by intro x; simp only [cnt_append, cnt_cons, cnt_nil]; omega)
  obtain ⟨w1, hr1, hs2⟩ := mapUpdate_sl (P := Try.prog) (t := 34) (key := .int .i64 p.1) hs1 Try.underlying34 Try.underlying3 rfl (.int .i64 l.length)
  refine can_act1 rfl rfl rfl (fun K hK => ?_)
  go_wp2
  refine can_end1 ?_; (try simp only [Exit.then])
  clear hr1 c0 c1 z0 hs hs1
  simp only [hfn, Option.isSome_none, Bool.false_eq_true, if_false] at hs2
  obtain ⟨L, hsL, hLz, hLx, hLu⟩ : ∃ L, Sat W w1 L ∧ cellsA z #[.int .i64 p.1, .int .i64 p.2] 28 ∈ L ∧ cellsA x #[v, .map (some m)] 55 ∈ L ∧ ∀ w', Sat W w' L → Sat W w' (R ++ (cellsA x #[v, .map (some m)] 55 :: mapA m (.int .i64) (updV f (.int .i64 p.1) (.int .i64 l.length)) (l.length + 1) :: F)) :=
    ⟨_, hs2, m1, m2, fun w' h => h.use (by intro x; simp only [cnt_append, cnt_cons, cnt_nil, List.append_eq]; omega)⟩
  have c0 : ∀ y : Of W L, y.v.cell? ⟨x, 0, none⟩ = some (.slice off l.length cap) := fun y => by rw [y.s.cell hLx 0, hvv.out]; rfl
  have z0 : w1.cell? ⟨z, 0, none⟩ = some (.int .i64 p.1) := hsL.cell hLz 0
  have z1 : w1.cell? ⟨z, 1, none⟩ = some (.int .i64 p.2) := hsL.cell hLz 1
  clear hs2
  go_wp2
  refine wp_region_held1 [6, 7, 10] [0, 1, 2, 3, 4] [0, 1, 2, 3] [6] [0, 1, 2, 3, 4, 5, 6, 7, 8, 9, 10] (Held W L) (by kernel_rfl) (by kernel_rfl) ?_ ?_
  · exact Held.mk hsL.drew
  have hne : Nonempty (Of W L) := ⟨⟨_, hsL.drew⟩⟩
  repeat (first | (refine can_pu1 rfl rfl rfl rfl rfl rfl (fun K hK => ?_); go_big_quiet_op; refine hK _ ?_; clear hK K) | (refine can_st1 rfl rfl rfl rfl rfl rfl (fun K hK => ?_); go_big_quiet_op; refine hK _ ?_; clear hK K) | (refine can_early1 rfl rfl rfl rfl rfl (fun K hK => ?_); go_big_quiet_op; refine hK _ ?_; clear hK K) | (refine can_skip rfl rfl rfl ?_; simp only [Act.put, List.setIfInBounds_toArray, List.set_cons_zero, List.set_cons_succ]))
  refine can_actS rfl rfl rfl rfl (fun K hK => ?_)
  go_wp2
  refine ⟨Held.mk (hsL.alloc _).drew, ?_⟩
  refine with_sat (Sat.newCells hsL #[.int .i64 p.1, .int .i64 p.2] 28).drew ?_
  generalize w1.heap.size = y
  clear c0 z0 z1 hne
  intro w hs
  have hsr : Sat W w (R ++ (cellsA x #[v, .map (some m)] 55 :: mapA m (.int .i64) (updV f (.int .i64 p.1) (.int .i64 l.length)) (l.length + 1) :: F)) := hLu w hs.tail
  obtain ⟨i0, hi, hz0, hz1, hz2⟩ := info_parts infoIt
  have hsrc : Reads w (.slice (some ⟨y, 0, none⟩) 1 1) 1 [.int .i64 p.1, .int .i64 p.2] := .inr ⟨_, _, rfl, fun j u hu => by
    rw [add_row, hs.cell m0 (0 + j), ← hu]
    simp⟩
  obtain ⟨v2, w2, R2, hra, hrow, hs2⟩ := append_sl (P := Try.prog) 44 Try.underlying44 hi hz0 hz1 hz2 rfl (by decide) hr hsr hsrc rfl (by simp [Value.oneCell']) (by unfold maxLen; omega) (by omega)
  rw [hvv.out] at hra
  obtain ⟨a2, c2, rfl⟩ := Pk.RowA.slice hrow
  refine can_actF rfl rfl rfl rfl (fun K hK => ?_)
  refine wp_append rfl hra ?_
  simp only [Act.put, List.setIfInBounds_toArray, List.set_cons_zero, List.set_cons_succ]
  refine hK _ _ ?_
  clear hK hra hsrc hs K
  have d0 : w2.cell? ⟨x, 0, none⟩ = some v := hs2.cell (List.mem_append_right _ m0) 0
  have d1 : w2.frozen? ⟨x, 0, none⟩ = false := hs2.free (List.mem_append_right _ m0) 0
  repeat (first | (refine can_pu1 rfl rfl rfl rfl rfl rfl (fun K hK => ?_); go_big_quiet_op; refine hK _ ?_; clear hK K) | (refine can_st1 rfl rfl rfl rfl rfl rfl (fun K hK => ?_); go_big_quiet_op; refine hK _ ?_; clear hK K) | (refine can_early1 rfl rfl rfl rfl rfl (fun K hK => ?_); go_big_quiet_op; refine hK _ ?_; clear hK K) | (refine can_skip rfl rfl rfl ?_; simp only [Act.put, List.setIfInBounds_toArray, List.set_cons_zero, List.set_cons_succ]))
  refine can_actF rfl rfl rfl rfl (fun K hK => ?_)
  go_wp2
  refine can_end1 ?_; (try simp only [Exit.then])
  go_end0
  have hs3 : Sat W w2 (cellsA x #[v, .map (some m)] 55 :: mapA m (.int .i64) (updV f (.int .i64 p.1) (.int .i64 l.length)) (l.length + 1) :: R2 ++ F) := hs2.use (by intro x; simp only [cnt_append, cnt_cons, cnt_nil]; omega)
  have hs4 := Sat.setCell hs3 0 (.slice a2 (l.length + 1) c2)
  simp only [List.setIfInBounds_toArray, List.set_cons_zero] at hs4
  have e1 : (l ++ [p]).length = l.length + 1 := by simp
  refine ⟨rfl, _, ⟨.slice a2 (l.length + 1) c2, m, _, R2, ?_, idx_push hf hfn, rfl⟩, ?_⟩
  · rw [flat_append, e1]; exact hrow
  · rw [e1]; exact hs4
end Go.Proofs.Ytelcaeapflhadaa.Pk
