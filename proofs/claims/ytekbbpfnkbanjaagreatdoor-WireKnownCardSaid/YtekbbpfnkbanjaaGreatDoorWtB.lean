
/-
  corbelhand.Intent, Fates; the document's SameIntent; a wire's node's live intents.
-/
import Derived.Test.YtekbbpfnkbanjaaGreatDoorWtA
import Derived.Lib.BufferRead
namespace Go.Proofs.YtekbbpfnkbanjaaGreatDoor.Ch
set_option linter.unusedSimpArgs false
open Go Go.RowKit Go.Sl Go.BigFrame
set_option linter.unusedVariables false

theorem str_of12 (v : Value) (l : List UInt8) (w : World) (hr : Reads w v l.length (bts l)) : (convert 30 9 v).run Tryz.prog w = .ok (.string ⟨l.toArray⟩) w := by
  rcases hr with ⟨rfl, h2, _⟩ | ⟨a, c, rfl, hc⟩
  · obtain rfl : l = [] := List.length_eq_zero_iff.1 h2
    exact Go.Lib.run_convert_nil_bytes w _ _ _ 0 Tryz.underlying30 Tryz.underlying5 Tryz.underlying9
  · exact run_convert_bytes_back w _ _ _ a c l Tryz.underlying30 Tryz.underlying5 Tryz.underlying9 (fun j hj => hc j _ (bts_get (List.getElem?_eq_getElem hj)))
set_option maxRecDepth 100000 in
theorem ref_sameI (p q : It) (v v2 : Value) (W w : World) (L : List Atom) (hs : Sat W w L) (h1 : ∀ y, Sat W y L → Reads y v p.data.length (bts p.data)) (h2 : ∀ y, Sat W y L → Reads y v2 q.data.length (bts q.data)) :
    Calls Tryz.prog 17 #[itV p v, itV q v2] w fun e w' => e = .returned (.bool (decide (p = q))) ∧ Sat W w' L := by
  obtain ⟨s, g, d⟩ := p
  obtain ⟨s2, g2, d2⟩ := q
  obtain ⟨av, cv, rfl⟩ := reads_shape (h1 w hs)
  obtain ⟨av2, cv2, rfl⟩ := reads_shape (h2 w hs)
  simp only at h1 h2
  unfold itV
  simp only []
  by_cases e1 : s = s2
  case neg =>
    have hne : ¬ (⟨s, g, d⟩ : It) = ⟨s2, g2, d2⟩ := fun h => e1 (by injection h)
    have q0 : (s == s2) = false := by simpa using e1
    rw [decide_eq_false hne]
    clear hne
    have hs2 : Sat W _ L := (hs.alloc (.cells #[.int .i64 s, .int .i64 g, .slice av d.length cv] 32)).alloc (.cells #[.int .i64 s2, .int .i64 g2, .slice av2 d2.length cv2] 32)
    go_enter Tryz.func17, Tryz.ntmps17
    go_wp2_with fail
    go_ret
    exact ⟨rfl, hs2⟩
  case pos =>
  subst e1
  by_cases e2 : g = g2
  case neg =>
    have hne : ¬ (⟨s, g, d⟩ : It) = ⟨s, g2, d2⟩ := fun h => e2 (by injection h)
    have q0 : (g == g2) = false := by simpa using e2
    rw [decide_eq_false hne]
    clear hne
    have hs2 : Sat W _ L := (hs.alloc (.cells #[.int .i64 s, .int .i64 g, .slice av d.length cv] 32)).alloc (.cells #[.int .i64 s, .int .i64 g2, .slice av2 d2.length cv2] 32)
    go_enter Tryz.func17, Tryz.ntmps17
    go_wp2_with fail
    go_ret
    exact ⟨rfl, hs2⟩
  case pos =>
  subst e2
  have hs2 : Sat W _ L := (hs.alloc (.cells #[.int .i64 s, .int .i64 g, .slice av d.length cv] 32)).alloc (.cells #[.int .i64 s, .int .i64 g, .slice av2 d2.length cv2] 32)
  have he : decide ((⟨s, g, d⟩ : It) = ⟨s, g, d2⟩) = (d == d2) := by
    by_cases h : d = d2
    · rw [decide_eq_true (by rw [h]), h]; simp
    · rw [decide_eq_false (fun e => h (by injection e))]
      exact (beq_eq_false_iff_ne.2 h).symm
  rw [he]
  have hc1 := str_of12 _ d _ (h1 _ hs2)
  have hc2 := str_of12 _ d2 _ (h2 _ hs2)
  clear he h1 h2
  go_enter Tryz.func17, Tryz.ntmps17
  go_wp2_with fail
  go_ret
  exact ⟨rfl, hs2⟩

/-- corbelhand.Intent, no bend. -/
def handI (s g seed : Int) : It := ⟨handPick s 40, 1 + handPick g 9, bytesOf seed 128⟩
theorem handI_right (s g seed : Int) : rightI (handI s g seed) := by
  obtain ⟨p1, p2⟩ := handPick_bounds s 40 (by omega)
  obtain ⟨p3, p4⟩ := handPick_bounds g 9 (by omega)
  refine ⟨p1, p2, ?_, ?_, bytesOf_length _ _⟩
  · show 1 ≤ 1 + handPick g 9; omega
  · show 1 + handPick g 9 ≤ _; omega
set_option maxRecDepth 100000 in
set_option maxHeartbeats 2000000 in
theorem hand_intent (s g seed : Int) (W w : World) (L : List Atom) (hs : Sat W w L) :
    Calls Tryz.prog 12 #[.int .i64 s, .int .i64 g, .int .i64 seed, .int .i64 0] w fun e w' => ∃ a c R, e = .returned (.agg #[.int .i64 (handPick s 40), .int .i64 (1 + handPick g 9), .slice a 128 c]) ∧ RowA 5 1 (.slice a 128 c) 128 (bts (bytesOf seed 128)) R ∧ Sat W w' (R ++ L) := by
  obtain ⟨p1, p2⟩ := handPick_bounds s 40 (by omega)
  obtain ⟨p3, p4⟩ := handPick_bounds g 9 (by omega)
  have hs1 := hs.newCells #[.int .i64 0, .int .i64 0, .slice none 0 0] 32
  have HP1 := Lib.hid (fun w => hand_pick s 40 w (by omega) (by omega))
  have HP2 := Lib.hid (fun w => hand_pick g 9 w (by omega) (by omega))
  have HP3 := Lib.hid (fun w => hand_pick 0 24 w (by omega) (by omega))
  clear hs
  generalize handPick s 40 = a1 at *
  generalize handPick g 9 = a2 at *
  go_enter Tryz.func12, Tryz.ntmps12
  go_wp2_with fail
  refine (HP1.out _).mono ?_; rintro r wq ⟨rfl, rfl⟩
  go_wp2_with fail
  refine (HP2.out _).mono ?_; rintro r wq ⟨rfl, rfl⟩
  go_wp2_with fail
  refine (bytes_of seed 128 W _ _ (by omega) hs1).mono ?_; rintro r w2 ⟨v, R, rfl, hr, hs2⟩
  obtain ⟨sa, sc, rfl⟩ := Ch.RowA.slice hr
  generalize w.heap.size = z at *
  have hs3 := Sat.use (M := cellsA z #[.int .i64 0, .int .i64 0, .slice none 0 0] 32 :: (R ++ L)) hs2 (by intro x; simp only [cnt_append, cnt_cons, cnt_nil]; omega)
  have hzl : z < w2.heap.size := hs3.lt m0
  have e0 := hs3.cell m0 0
  have e1 := hs3.cell m0 1
  have e2 := hs3.cell m0 2
  have f0 := hs3.free m0 0
  have f1 := hs3.free m0 1
  have f2 := hs3.free m0 2
  have hz := Sat.setCell (Sat.setCell (Sat.setCell hs3 0 (.int .i64 a1)) 1 (.int .i64 (1 + a2))) 2 (.slice sa 128 sc)
  have HR := Lib.hid hr
  clear hs1 hs2 hs3 hr
  go_wp2_with fail
  refine (HP3.out _).mono ?_; rintro r wq ⟨rfl, rfl⟩
  rw [show handPick 0 24 = 0 by decide]
  go_wp2_with fail
  refine bodyPost_ret (v := .agg #[.int .i64 a1, .int .i64 (1 + a2), .slice sa 128 sc]) (by simp [results, Tryz.results12, go_sem, *]) rfl ?_
  first
    | exact ⟨sa, sc, R, rfl, HR.out, (hz.alloc _).tail⟩
    | exact ⟨sa, sc, rfl, R, HR.out, (hz.alloc _).tail⟩

set_option maxRecDepth 100000 in
set_option maxHeartbeats 4000000 in
theorem hand_fates (lv : Value) (l : List Int) (n : Nat) (W w : World) (L : List Atom) (hs : Sat W w L) (hin : ∀ y, Sat W y L → Reads y lv l.length (intsC l)) (hn : n ≤ 1000) :
    Calls Tryz.prog 9 #[lv, .int .i64 n] w fun e w' => ∃ v fs R, e = .returned v ∧ RowA 3 1 v fs.length (intsC fs) R ∧ fs.length ≤ n ∧ Sat W w' (R ++ L) := by
  obtain ⟨al, cl, rfl⟩ := reads_shape (hin w hs)
  have HIN := Lib.hid hin
  clear hin
  have n0 : (0 : Int) ≤ n := by omega
  go_enter Tryz.func9, Tryz.ntmps9
  go_wp2_with fail
  go_loopw [6, 5] (fun iv ov wr => ∃ (k : Nat) (fs : List Int) (R : List Atom), iv = .int .i64 k ∧ k ≤ n ∧ fs.length ≤ k ∧ RowA 3 1 ov fs.length (intsC fs) R ∧ Sat W wr (R ++ L)) (fun iv _ _ => (n - (intOf iv).toNat))
  case atStart => exact ⟨0, [], [], rfl, Nat.zero_le _, Nat.le_refl _, RowA.nil _ _, hs⟩
  case round =>
    clear hs
    obtain ⟨k, fs, R, rfl, hk, hfl, hr, hs⟩ := hrel
    obtain ⟨ao, co, rfl⟩ := Ch.RowA.slice hr
    have k0 : (0 : Int) ≤ k := by omega
    go_upto_region 3 with fail
    go_cut [16] (fun tv wx => tv = .bool (decide (k < l.length ∧ k < n)) ∧ Sat W wx (R ++ L))
    case first =>
      by_cases hin : k < l.length
      · have i1 : (k : Int) < l.length := by omega
        by_cases hi7 : k < n
        · have i2 : (k : Int) < n := by omega
          have hd : decide (k < l.length ∧ k < n) = true := decide_eq_true ⟨hin, hi7⟩
          go_wp2_with fail
          go_meet
          exact ⟨by rw [hd], hs⟩
        · have i2 : ¬ (k : Int) < n := by omega
          have hd : decide (k < l.length ∧ k < n) = false := decide_eq_false (fun h => hi7 h.2)
          go_wp2_with fail
          go_meet
          exact ⟨by rw [hd], hs⟩
      · have i1 : ¬ (k : Int) < l.length := by omega
        have hd : decide (k < l.length ∧ k < n) = false := decide_eq_false (fun h => hin h.1)
        go_wp2_with fail
        go_meet
        exact ⟨by rw [hd], hs⟩
    case rest =>
    clear hs
    obtain ⟨rfl, hs⟩ := hcut
    by_cases hgo : k < l.length ∧ k < n
    case neg =>
      rw [decide_eq_false hgo]
      go_wp2_with fail
      go_ret
      first
        | exact ⟨_, fs, R, rfl, hr, by omega, hs⟩
        | exact ⟨_, rfl, fs, R, hr, by omega, hs⟩
    case pos =>
    rw [decide_eq_true hgo]
    obtain ⟨hin, hi7⟩ := hgo
    obtain ⟨d, hd⟩ : ∃ d, l[k]? = some d := ⟨_, List.getElem?_eq_getElem hin⟩
    have i1 : (k : Int) < l.length := by omega
    rcases HIN.out wc hs.right with ⟨_, hz, _⟩ | ⟨a', c', e1, hc⟩
    · omega
    cases e1
    have d0 : wc.cell? (a'.add k) = some (.int .i64 d) := hc k _ (intsC_get hd)
    clear hc hd
    by_cases hz : d.tmod 4 = 0
    · have q : (d.tmod 4 == 0) = true := by simpa using hz
      clear hz
      go_wp2_with fail
      refine (hand_pick _ 4 _ (by omega) (by omega)).mono ?_; rintro r wq ⟨rfl, rfl⟩
      generalize handPick _ 4 = f at *
      clear d0
      have hs6 := hs.newCells #[.int .i64 f] 3
      have hsrc := reads_cells hs6 m0 1 1 (intsC [f]) rfl
      have hs7 := Sat.use (M := R ++ L) hs6 (by intro x; simp only [cnt_append, cnt_cons, cnt_nil]; omega)
      clear hs hs6
      go_wp2_with (at_builtin; refine wpList_plain rfl (fun K hK => ?_); refine wp_append_g Tryz.underlying22 infoInt rfl (by decide) (by decide) rfl rfl rfl hr hs7 hsrc (by simp [intsC]) (intsC_one [f]) (by omega) (fun v2 w7 R2 hr2 hs10 => ?_); refine hK _ _ ?_; simp only [Act.put, List.setIfInBounds_toArray, List.set_cons_zero, List.set_cons_succ]; clear hK)
      refine ⟨⟨k + 1, fs ++ [f], R2, by simp, by omega, by rw [List.length_append]; simp; omega, ?_, hs10⟩, ?_⟩
      · rw [List.length_append, intsC, List.map_append]
        exact hr2
      · simp [intOf]
        omega
    · have q : (d.tmod 4 == 0) = false := by simpa using hz
      clear hz
      have hs6 := hs.newCells #[.int .i64 0] 3
      have hsrc := reads_cells hs6 m0 1 1 (intsC [0]) rfl
      have hs7 := Sat.use (M := R ++ L) hs6 (by intro x; simp only [cnt_append, cnt_cons, cnt_nil]; omega)
      clear hs hs6
      go_wp2_with (at_builtin; refine wpList_plain rfl (fun K hK => ?_); refine wp_append_g Tryz.underlying22 infoInt rfl (by decide) (by decide) rfl rfl rfl hr hs7 hsrc (by simp [intsC]) (intsC_one [0]) (by omega) (fun v2 w7 R2 hr2 hs10 => ?_); refine hK _ _ ?_; simp only [Act.put, List.setIfInBounds_toArray, List.set_cons_zero, List.set_cons_succ]; clear hK)
      refine ⟨⟨k + 1, fs ++ [0], R2, by simp, by omega, by rw [List.length_append]; simp; omega, ?_, hs10⟩, ?_⟩
      · rw [List.length_append, intsC, List.map_append]
        exact hr2
      · simp [intOf]
        omega

/-- Live of a node of a wire. -/
theorem wlive_any {b k nb m : Nat} {nd : Nd} {x : Wr} {A L : List Atom} {W w : World} (hx : WrA b x A) (hs : Sat W w (A ++ L)) (hk : x.ns[k]? = some (nb, nd)) (hf : NdFit nd m) :
    ∃ br, Calls Tryz.prog 15 #[.pointer (some ⟨nb, 0, none⟩)] w (fun e w' => e = .returned (.pointer (some ⟨br, 0, none⟩)) ∧ w = w') ∧
      Calls Tryz.prog 16 #[.pointer (some ⟨br, 0, none⟩)] w (fun e w' => ∃ v ys R C, e = .returned v ∧ RowA 32 3 v ys.length (itsC ys) R ∧ LiveY nd.g.slots ys C ∧ Sat W w' (A ++ (R ++ (C ++ L)))) := by
  obtain ⟨fv, Rf, An, hfr, hn, h8, hd, rfl⟩ := hx
  obtain ⟨A1, Ar, hN, hcn, _⟩ := WrA.node hn hk
  obtain ⟨bp, br, Aq, Ag, hq, hg, rfl⟩ := hN
  have hs1 := Sat.use (M := cellsA nb #[.pointer (some ⟨bp, 0, none⟩), .pointer (some ⟨br, 0, none⟩), .int .i64 nd.boot] 73 :: (Ag ++ (Aq ++ (Ar ++ (Rf ++ (cellsA b (wrC fv x) 64 :: L)))))) hs (by intro y; simp only [cnt_append, cnt_cons, cnt_nil] at *; have := hcn y; omega)
  refine ⟨br, node_ring nb bp br nd [] W w _ hs1, ?_⟩
  refine (live_node br bp nd.g Ag W w (cellsA nb #[.pointer (some ⟨bp, 0, none⟩), .pointer (some ⟨br, 0, none⟩), .int .i64 nd.boot] 73 :: (Aq ++ (Ar ++ (Rf ++ (cellsA b (wrC fv x) 64 :: L))))) hg (hs1.use (by intro x; simp only [cnt_append, cnt_cons, cnt_nil]; omega)) hf.slen (fun x hx => (hf.sok x hx).len)).mono ?_
  rintro e w' ⟨v, ys, R, C, rfl, hr, hy, hs'⟩
  exact ⟨v, ys, R, C, rfl, hr, hy, hs'.use (by intro y; simp only [cnt_append, cnt_cons, cnt_nil] at *; have := hcn y; omega)⟩
end Go.Proofs.YtekbbpfnkbanjaaGreatDoor.Ch
