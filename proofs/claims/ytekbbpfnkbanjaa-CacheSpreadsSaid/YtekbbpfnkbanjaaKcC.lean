
/-
  The cache's functions over a cache in memory: Count, Spread.
-/
import Derived.Test.YtekbbpfnkbanjaaKcB
namespace Go.Proofs.Ytekbbpfnkbanjaa.Ch
open Go Go.RowKit Go.Sl Go.BigFrame
set_option linter.unusedVariables false
set_option linter.unusedSimpArgs false

def Mo.count (m : Mo) : Nat := (m.map fun x => x.2.length).sum
noncomputable def Mo.spread (m : Mo) : Nat := (m.map fun x => (dd (extN (x.2.map Prod.fst))).length).sum

theorem CaOk.split {X : List Nm} (h : CaOk X) {a : Nm} (ha : a ∈ X) {W w : World} {L : List Atom} (hs : Sat W w (nmsAt X ++ L)) :
    Sat W w (mapA a.b (.int .i64) (secF a.l) a.l.length :: (secAt a.l ++ (nmsAt (outK Nm.s a.s X) ++ L))) := hs.use fun x => by
  have h1 := h.cnt ha x
  rw [show nmAt a = mapA a.b (.int .i64) (secF a.l) a.l.length :: secAt a.l from rfl, cnt_cons] at h1
  simp only [cnt_append, cnt_cons]
  omega
theorem CaOk.join {X : List Nm} (h : CaOk X) {a : Nm} (ha : a ∈ X) {W w : World} {L : List Atom} (hs : Sat W w (mapA a.b (.int .i64) (secF a.l) a.l.length :: (secAt a.l ++ (nmsAt (outK Nm.s a.s X) ++ L)))) :
    Sat W w (nmsAt X ++ L) := hs.use fun x => by
  have h1 := h.cnt ha x
  rw [show nmAt a = mapA a.b (.int .i64) (secF a.l) a.l.length :: secAt a.l from rfl, cnt_cons] at h1
  simp only [cnt_append, cnt_cons]
  omega
theorem abs_keys (l : List Sec) : (l.map Sec.abs).map Prod.fst = l.map Sec.k := by rw [List.map_map]; rfl
theorem count_abs (X : List Nm) : Mo.count (X.map Nm.abs) = (X.map fun n => n.l.length).sum := by
  unfold Mo.count
  rw [List.map_map]
  congr 1
  apply List.map_congr_left
  intro n _
  simp [Nm.abs]
theorem spread_abs (X : List Nm) : Mo.spread (X.map Nm.abs) = (X.map fun n => (dd (extN (n.l.map Sec.k))).length).sum := by
  unfold Mo.spread
  rw [List.map_map]
  congr 1
  apply List.map_congr_left
  intro n _
  simp only [Nm.abs, Function.comp_apply, abs_keys]
theorem spread_le (m : Mo) : m.spread ≤ m.count := by
  unfold Mo.spread Mo.count
  induction m with
  | nil => simp
  | cons x m ih =>
    simp only [List.map_cons, List.sum_cons]
    have h1 := dd_len_le (extN (x.2.map Prod.fst))
    simp only [extN, List.length_map] at h1 ih ⊢
    omega
theorem sum_le_of_mem {α : Type} (f : α → Nat) : ∀ {l : List α} {a : α}, a ∈ l → f a ≤ (l.map f).sum
  | b :: l, a, h => by
    rcases List.mem_cons.1 h with rfl | h
    · simp
    · have := sum_le_of_mem f h
      simp; omega
theorem sum_perm {α : Type} (f : α → Nat) {l m : List α} (h : l.Perm m) : (l.map f).sum = (m.map f).sum := (h.map f).sum_nat
theorem sum_done {α : Type} (f : α → Nat) {dn td l : List α} {a : α} (h : (dn ++ td).Perm l) (ha : a ∈ td) : (dn.map f).sum + f a ≤ (l.map f).sum := by
  rw [← sum_perm f h, List.map_append, List.sum_append]
  have := sum_le_of_mem f ha
  omega

set_option maxHeartbeats 1000000 in
theorem cache_count (bc : Nat) (m : Mo) (A : List Atom) (W w : World) (L : List Atom) (hA : CaA bc m A) (hs : Sat W w (A ++ L)) (hb : m.count < 1000000) :
    Calls Try.prog 11 #[.pointer (some ⟨bc, 0, none⟩)] w fun e w' => e = .returned (.int .i64 m.count) ∧ Sat W w' (A ++ L) := by
  obtain ⟨bm, X, rfl, hok, rfl⟩ := hA
  rw [count_abs] at hb ⊢
  have c0 : w.cell? ⟨bc, 0, none⟩ = some (.map (some bm)) := hs.cell m0 0
  obtain ⟨es, clock, hm, hsE⟩ := Sat.openMap (b := bm) (d := .string) (f := nmF X) (n := X.length) (L := cellsA bc #[.map (some bm)] 42 :: (nmsAt X ++ L)) (hs.use (by intro x; simp only [cnt_append, cnt_cons, cnt_nil]; omega))
  obtain ⟨hrr, hsR⟩ := range_sl (P := Try.prog) Try.underlying40 hsE
  have hr0 : RngL es #[] (fun a : Nm => .string a.s) (fun a => .map (some a.b)) X := rng_start hm X (nm_keys hok.apart) (nmF_iff X hok.apart)
  obtain ⟨S, hS⟩ : ∃ S, S = (X.map fun n => n.l.length).sum := ⟨_, rfl⟩
  have HSS := Lib.hid hS
  rw [← hS] at hb ⊢
  have HOK := Lib.hid hok
  go_enter Try.func11, Try.ntmps11
  go_wp2_with fail
  clear c0 hs hsE hrr hok hS
  generalize w.heap.size = rr at *
  have HR0 := Lib.hid hr0
  clear hr0
  go_loopw [3, 5] (fun nv _ wr => ∃ seen dn todo, nv = .int .i64 ((dn.map fun n : Nm => n.l.length).sum : Nat) ∧ (dn ++ todo).Perm X ∧ RngL es seen (fun a : Nm => .string a.s) (fun a => .map (some a.b)) todo ∧ Sat W wr (iterA rr bm clock seen :: mapE bm es clock :: cellsA bc #[.map (some bm)] 42 :: (nmsAt X ++ L))) (fun _ _ wr => (leftOf es (wr.iterSeen rr)).size)
  case atStart => exact ⟨#[], [], X, rfl, by simp, HR0.out, hsR⟩
  case round =>
    clear hsR
    obtain ⟨seen, dn, todo, rfl, hp, hr, hs1⟩ := hrel
    have hseen := hs1.iterSeen
    rcases next_sl (P := Try.prog) 0 hm hs1 with ⟨h0, hn0⟩ | ⟨e, he, w4, hnx, hs4⟩
    · have ht := rng_end hr h0
      subst ht
      rw [List.append_nil] at hp
      have he : (dn.map fun n : Nm => n.l.length).sum = S := by rw [HSS.out]; exact sum_perm _ hp
      rw [he]
      clear hr hp hseen he
      go_wp2_with fail
      go_ret
      have hs5 : Sat W wr (mapE bm es clock :: (cellsA bc #[.map (some bm)] 42 :: (nmsAt X ++ L))) := hs1.use (by intro x; simp only [cnt_append, cnt_cons, cnt_nil]; omega)
      have hs6 := Sat.shutMap hm hs5
      exact ⟨rfl, hs6.use (by intro x; simp only [cnt_append, cnt_cons, cnt_nil]; omega)⟩
    · obtain ⟨a, todo', hpt, hek, hev, hr2⟩ := rng_next hm.stamps hr he
      have hent := entry_sl (P := Try.prog) hm he hs4
      rw [hek, hev] at hnx hent
      have hms := left_shrinks es seen e he
      have hat : a ∈ todo := hpt.symm.subset (List.mem_cons_self ..)
      have haX : a ∈ X := hp.subset (List.mem_append_right _ hat)
      have hsum := sum_done (fun n : Nm => n.l.length) hp hat
      have hs5 := HOK.out.split haX (hs4.use (M := nmsAt X ++ []) (by intro x; simp only [cnt_append, cnt_cons, cnt_nil]; omega))
      have hl := len_sl (P := Try.prog) (t := 35) hs5 m0 Try.underlying35 3
      have hp2 : ((dn ++ [a]) ++ todo').Perm X := by
        refine List.Perm.trans ?_ hp
        rw [List.append_assoc]
        exact List.Perm.append_left dn hpt.symm
      have hs6 : ((dn ++ [a]).map fun n : Nm => n.l.length).sum = (dn.map fun n : Nm => n.l.length).sum + a.l.length := by simp
      have HM := Lib.hid hms
      have HS := Lib.hid hseen
      have HP := Lib.hid hp2
      have HR2 := Lib.hid hr2
      have HS6 := Lib.hid hs6
      rw [← HSS.out] at hsum
      generalize (dn.map fun n : Nm => n.l.length).sum = q at *
      generalize a.l.length = al at *
      have q1 : (q : Int) + al < 1000000 := by omega
      have q0 : (0 : Int) ≤ q := by omega
      have q2 : (0 : Int) ≤ al := by omega
      clear hs1 hms hseen hp hp2 hpt hr hr2 hat haX hek hev hs6 hs5 hsum
      go_wp2_with fail
      refine ⟨⟨_, _, todo', ?_, HP.out, HR2.out, hs4⟩, ?_⟩
      · rw [HS6.out]; simp
      rw [HS.out, hs4.iterSeen]
      exact HM.out
end Go.Proofs.Ytekbbpfnkbanjaa.Ch
