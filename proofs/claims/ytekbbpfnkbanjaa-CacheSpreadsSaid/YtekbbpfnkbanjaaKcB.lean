
/-
  The cache's functions over a cache in memory: New, extents.
-/
import Derived.Test.YtekbbpfnkbanjaaKcR
namespace Go.Proofs.Ytekbbpfnkbanjaa.Ch
open Go Go.RowKit Go.Sl Go.BigFrame
set_option linter.unusedVariables false
set_option linter.unusedSimpArgs false

theorem cache_new (W w : World) (L : List Atom) (hs : Sat W w L) :
    Calls Try.prog 4 #[] w fun e w' => ∃ b A, e = .returned (.pointer (some ⟨b, 0, none⟩)) ∧ CaA b [] A ∧ Sat W w' (A ++ L) := by
  have hmm := @run_makeMap Try.prog
  have hs1 := newMap_sl hs .string
  have hz : (w.alloc (.map #[] 0)).heap.size = w.heap.size + 1 := by simp
  go_enter Try.func4, Try.ntmps4
  go_wp2_with fail
  have hs2 := hs1.newCells #[.map (some w.heap.size)] 42
  go_ret
  refine ⟨_, _, rfl, ⟨w.heap.size, [], rfl, ⟨by simp, by simp⟩, rfl⟩, ?_⟩
  rw [hz] at hs2
  rw [nmF_nil, nmsAt_nil]
  exact hs2

/-- The extents of sectors' numbers. -/
def extN (l : List Int) : List Int := l.map (· / 8)

theorem extents_nil (W w : World) (L : List Atom) (hs : Sat W w L) :
    Calls Try.prog 19 #[.map none] w fun e w' => ∃ b, e = .returned (.map (some b)) ∧ Sat W w' (mapA b (.int .i64) (inF []) 0 :: L) := by
  have hmm := @run_makeMap Try.prog
  have hs1 := newMap_sl hs (.int .i64)
  have hrr := run_range_nilMap (P := Try.prog) (w.alloc (.map #[] 0)) 35 _ _ Try.underlying35
  have hnx : ∀ ty, (Instr.next (.pointer (some ⟨(w.alloc (.map #[] 0)).heap.size, 0, none⟩)) false ty).run Try.prog ((w.alloc (.map #[] 0)).alloc (.mapIter none 0 #[] 0)) = _ := fun ty => run_next_nilMap _ ty 0 0 #[]
  have hs2 := hs1.alloc (.mapIter none 0 #[] 0)
  generalize hw1 : w.alloc (.map #[] 0) = w1 at *
  have hz : w1.heap.size = w.heap.size + 1 := by rw [← hw1]; simp
  generalize hw2 : w1.alloc (.mapIter none 0 #[] 0) = w2 at *
  go_enter Try.func19, Try.ntmps19
  go_wp2_with fail
  rw [hz] at hnx
  clear hmm hs hs1 hrr hz
  go_loopw [4] (fun _ wr => wr = w2) (fun _ _ => 0)
  case atStart => rfl
  case round =>
    subst hrel
    go_wp2_with fail
    go_ret
    refine ⟨_, rfl, ?_⟩
    rw [inF_nil]
    exact hs2

theorem extents_any (l : List Sec) (b : Nat) (W w : World) (L : List Atom) (hn : (l.map Sec.k).Nodup) (hk : ∀ s ∈ l, 0 ≤ s.k ∧ s.k < 1000000) (hs : Sat W w (mapA b (.int .i64) (secF l) l.length :: L)) :
    Calls Try.prog 19 #[.map (some b)] w fun e w' => ∃ b2, e = .returned (.map (some b2)) ∧ Sat W w' (mapA b2 (.int .i64) (inF (extN (l.map Sec.k))) (dd (extN (l.map Sec.k))).length :: (mapA b (.int .i64) (secF l) l.length :: L)) := by
  have hmm := @run_makeMap Try.prog
  obtain ⟨es, clock, hm, hsE⟩ := Sat.openMap hs
  have hs1 := newMap_sl hsE (.int .i64)
  have hs2 : Sat W (w.alloc (.map #[] 0)) (mapE b es clock :: (mapA w.heap.size (.int .i64) (fun _ => none) 0 :: L)) := hs1.use (by intro x; simp only [cnt_append, cnt_cons, cnt_nil]; omega)
  obtain ⟨hrr, hsR⟩ := range_sl (P := Try.prog) Try.underlying35 hs2
  have hr0 : RngL es #[] (fun a : Sec => .int .i64 a.k) (fun a => a.v) l := rng_start hm l (sec_keys hn) (secF_iff l hn)
  have hz : (w.alloc (.map #[] 0)).heap.size = w.heap.size + 1 := by simp
  go_enter Try.func19, Try.ntmps19
  go_wp2_with fail
  rw [hz] at hsR
  clear hmm hs hsE hs1 hs2 hrr hz
  generalize w.heap.size + 1 = rr at *
  generalize w.heap.size = z at *
  have HR0 := Lib.hid hr0
  clear hr0
  go_loopw [4] (fun _ wr => ∃ seen dn todo n, (dn ++ todo).Perm l ∧ RngL es seen (fun a : Sec => .int .i64 a.k) (fun a => a.v) todo ∧ Sat W wr (iterA rr b clock seen :: mapE b es clock :: mapA z (.int .i64) (inF (extN (dn.map Sec.k))) n :: L)) (fun _ wr => (leftOf es (wr.iterSeen rr)).size)
  case atStart => exact ⟨#[], [], l, 0, by simp, HR0.out, by rw [show extN (([] : List Sec).map Sec.k) = [] from rfl, inF_nil]; exact hsR⟩
  case round =>
    clear hsR
    obtain ⟨seen, dn, todo, n, hp, hr, hs1⟩ := hrel
    have hseen := hs1.iterSeen
    rcases next_sl (P := Try.prog) 0 hm hs1 with ⟨h0, hn0⟩ | ⟨e, he, w4, hnx, hs4⟩
    · have ht := rng_end hr h0
      subst ht
      rw [List.append_nil] at hp
      have HP := Lib.hid hp
      clear hr hp hseen
      go_wp2_with fail
      go_ret
      have hs5 : Sat W wr (mapE b es clock :: (mapA z (.int .i64) (inF (extN (dn.map Sec.k))) n :: L)) := hs1.use (by intro x; simp only [cnt_append, cnt_cons, cnt_nil]; omega)
      have hs6 := Sat.shutMap hm hs5
      have hc : inF (extN (dn.map Sec.k)) = inF (extN (l.map Sec.k)) := inF_congr fun k => ((HP.out.map Sec.k).map (· / 8)).mem_iff
      rw [hc] at hs6
      have hs7 : Sat W wr (mapA z (.int .i64) (inF (extN (l.map Sec.k))) n :: (mapA b (.int .i64) (secF l) l.length :: L)) := hs6.use (by intro x; simp only [cnt_append, cnt_cons, cnt_nil]; omega)
      refine ⟨z, rfl, ?_⟩
      rw [← sat_inF hs7]
      exact hs7
    · obtain ⟨a, todo', hpt, hek, hev, hr2⟩ := rng_next hm.stamps hr he
      have hent := entry_sl (P := Try.prog) hm he hs4
      rw [hek, hev] at hnx hent
      have hms := left_shrinks es seen e he
      have hal : a ∈ l := hp.subset (List.mem_append_right _ (hpt.symm.subset (List.mem_cons_self ..)))
      obtain ⟨b0, b1⟩ := hk a hal
      have hs5 : Sat W w4 (mapA z (.int .i64) (inF (extN (dn.map Sec.k))) n :: (iterA rr b clock (seen.push e.born) :: mapE b es clock :: L)) := hs4.use (by intro x; simp only [cnt_append, cnt_cons, cnt_nil]; omega)
      obtain ⟨w6, hr6, hs6⟩ := mapUpdate_sl (P := Try.prog) (t := 27) (key := .int .i64 (a.k / 8)) hs5 Try.underlying27 Try.underlying3 rfl (.bool true)
      rw [inF_put] at hs6
      have HM := Lib.hid hms
      have HS := Lib.hid hseen
      have hp2 : ((dn ++ [a]) ++ todo').Perm l := by
        refine List.Perm.trans ?_ hp
        rw [List.append_assoc]
        exact List.Perm.append_left dn hpt.symm
      have hmem : ∀ k, k ∈ (a.k / 8 :: extN (dn.map Sec.k)) ↔ k ∈ extN ((dn ++ [a]).map Sec.k) := fun k => by
        simp [extN]
        constructor
        · rintro (h | h)
          · exact .inr h
          · exact .inl h
        · rintro (h | h)
          · exact .inr h
          · exact .inl h
      rw [inF_congr hmem] at hs6
      obtain ⟨n', hs6⟩ : ∃ n', Sat W w6 (mapA z (.int .i64) (inF (extN ((dn ++ [a]).map Sec.k))) n' :: (iterA rr b clock (seen.push e.born) :: mapE b es clock :: L)) := ⟨_, hs6⟩
      have HP := Lib.hid hp2
      have HR2 := Lib.hid hr2
      clear hs1 hms hseen hp hp2 hpt hr hr2 hs4 hs5 hmem hal hek hev
      go_wp2_with fail
      refine ⟨⟨_, _, todo', n', HP.out, HR2.out, hs6.use (by intro x; simp only [cnt_append, cnt_cons, cnt_nil]; omega)⟩, ?_⟩
      rw [HS.out, (show Sat W w6 (iterA rr b clock (seen.push e.born) :: L) from hs6.use (by intro x; simp only [cnt_append, cnt_cons, cnt_nil]; omega)).iterSeen]
      exact HM.out
end Go.Proofs.Ytekbbpfnkbanjaa.Ch
