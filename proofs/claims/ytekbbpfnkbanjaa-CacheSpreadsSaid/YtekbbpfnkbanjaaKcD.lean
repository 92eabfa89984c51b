
/-
  The cache's functions over a cache in memory: Spread, With.
-/
import Derived.Test.YtekbbpfnkbanjaaKcC
import Derived.Deep.DeepCutAuto
import Derived.Deep.CutBlock
namespace Go.Proofs.Ytekbbpfnkbanjaa.Ch
open Go Go.RowKit Go.Sl Go.BigFrame
set_option linter.unusedVariables false
set_option linter.unusedSimpArgs false

set_option maxHeartbeats 1000000 in
theorem cache_spread (bc : Nat) (m : Mo) (A : List Atom) (W w : World) (L : List Atom) (hA : CaA bc m A) (hs : Sat W w (A ++ L)) (hb : m.count < 1000000) :
    Calls Try.prog 12 #[.pointer (some ⟨bc, 0, none⟩)] w fun e w' => e = .returned (.int .i64 m.spread) ∧ Sat W w' (A ++ L) := by
  have hb := Nat.lt_of_le_of_lt (spread_le m) hb
  obtain ⟨bm, X, rfl, hok, rfl⟩ := hA
  rw [spread_abs] at hb ⊢
  have c0 : w.cell? ⟨bc, 0, none⟩ = some (.map (some bm)) := hs.cell m0 0
  obtain ⟨es, clock, hm, hsE⟩ := Sat.openMap (b := bm) (d := .string) (f := nmF X) (n := X.length) (L := cellsA bc #[.map (some bm)] 42 :: (nmsAt X ++ L)) (hs.use (by intro x; simp only [cnt_append, cnt_cons, cnt_nil]; omega))
  obtain ⟨hrr, hsR⟩ := range_sl (P := Try.prog) Try.underlying40 hsE
  have hr0 : RngL es #[] (fun a : Nm => .string a.s) (fun a => .map (some a.b)) X := rng_start hm X (nm_keys hok.apart) (nmF_iff X hok.apart)
  obtain ⟨S, hS⟩ : ∃ S, S = (X.map fun n => (dd (extN (n.l.map Sec.k))).length).sum := ⟨_, rfl⟩
  have HSS := Lib.hid hS
  rw [← hS] at hb ⊢
  have HOK := Lib.hid hok
  go_enter Try.func12, Try.ntmps12
  go_wp2_with fail
  clear c0 hs hsE hrr hok hS
  generalize w.heap.size = rr at *
  have HR0 := Lib.hid hr0
  clear hr0
  go_loopw [3, 5] (fun nv _ wr => ∃ seen dn todo, nv = .int .i64 ((dn.map fun n : Nm => (dd (extN (n.l.map Sec.k))).length).sum : Nat) ∧ (dn ++ todo).Perm X ∧ RngL es seen (fun a : Nm => .string a.s) (fun a => .map (some a.b)) todo ∧ Sat W wr (iterA rr bm clock seen :: mapE bm es clock :: cellsA bc #[.map (some bm)] 42 :: (nmsAt X ++ L))) (fun _ _ wr => (leftOf es (wr.iterSeen rr)).size)
  case atStart => exact ⟨#[], [], X, rfl, by simp, HR0.out, hsR⟩
  case round =>
    clear hsR
    obtain ⟨seen, dn, todo, rfl, hp, hr, hs1⟩ := hrel
    have hseen := hs1.iterSeen
    rcases next_sl (P := Try.prog) 0 hm hs1 with ⟨h0, hn0⟩ | ⟨e, he, w4, hnx, hs4⟩
    · have ht := rng_end hr h0
      subst ht
      rw [List.append_nil] at hp
      have he : (dn.map fun n : Nm => (dd (extN (n.l.map Sec.k))).length).sum = S := by rw [HSS.out]; exact sum_perm _ hp
      rw [he]
      clear hr hp hseen he
      go_wp2_with fail
      go_ret
      have hs5 : Sat W wr (mapE bm es clock :: (cellsA bc #[.map (some bm)] 42 :: (nmsAt X ++ L))) := hs1.use (by intro x; simp only [cnt_append, cnt_cons, cnt_nil]; omega)
      have hs6 := Sat.shutMap hm hs5
      exact ⟨rfl, hs6.use (by intro x; simp only [cnt_append, cnt_cons, cnt_nil]; omega)⟩
    · obtain ⟨a, todo', hpt, hek, hev, hr2⟩ := rng_next hm.stamps hr he
      have hent := entry_sl (P := Try.prog) hm he hs4
      rw [hek, hev] at hnx hent
      have hms := left_shrinks es seen e he
      have hat : a ∈ todo := hpt.symm.subset (List.mem_cons_self ..)
      have haX : a ∈ X := hp.subset (List.mem_append_right _ hat)
      have hsum := sum_done (fun n : Nm => (dd (extN (n.l.map Sec.k))).length) hp hat
      have hs5 := HOK.out.split haX (hs4.use (M := nmsAt X ++ (iterA rr bm clock (seen.push e.born) :: mapE bm es clock :: cellsA bc #[.map (some bm)] 42 :: L)) (by intro x; simp only [cnt_append, cnt_cons, cnt_nil]; omega))
      have hnm := HOK.out.nms a haX
      have HX := Lib.hid (extents_any a.l a.b W w4 _ hnm.apart (fun s hs => ⟨(hnm.secs s hs).lo, (hnm.secs s hs).hi⟩) hs5)
      have hp2 : ((dn ++ [a]) ++ todo').Perm X := by
        refine List.Perm.trans ?_ hp
        rw [List.append_assoc]
        exact List.Perm.append_left dn hpt.symm
      have hs6 : ((dn ++ [a]).map fun n : Nm => (dd (extN (n.l.map Sec.k))).length).sum = (dn.map fun n : Nm => (dd (extN (n.l.map Sec.k))).length).sum + (dd (extN (a.l.map Sec.k))).length := by simp
      have HM := Lib.hid hms
      have HS := Lib.hid hseen
      have HP := Lib.hid hp2
      have HR2 := Lib.hid hr2
      have HS6 := Lib.hid hs6
      have HJ := Lib.hid (fun w L (h : Sat W w _) => HOK.out.join haX (w := w) (L := L) h)
      rw [← HSS.out] at hsum
      generalize (dn.map fun n : Nm => (dd (extN (n.l.map Sec.k))).length).sum = q at *
      have HN : ∃ al, (dd (extN (a.l.map Sec.k))).length = al := ⟨_, rfl⟩
      obtain ⟨al, hal⟩ := HN
      rw [hal] at hsum HS6
      have HAL := Lib.hid hal
      have q1 : (q : Int) + al < 1000000 := by omega
      have q0 : (0 : Int) ≤ q := by omega
      have q2 : (0 : Int) ≤ al := by omega
      clear hs1 hms hseen hp hp2 hpt hr hr2 hat haX hek hev hs6 hs5 hsum hal hnm hs4
      go_wp2_with fail
      refine HX.out.mono ?_; rintro r w5 ⟨b2, rfl, hs7⟩
      rw [HAL.out] at hs7
      have hl := len_sl (P := Try.prog) (t := 27) hs7 m0 Try.underlying27 3
      have hs8 := HJ.out w5 _ hs7.tail
      have hs9 : Sat W w5 (iterA rr bm clock (seen.push e.born) :: mapE bm es clock :: cellsA bc #[.map (some bm)] 42 :: (nmsAt X ++ L)) := hs8.use (by intro x; simp only [cnt_append, cnt_cons, cnt_nil]; omega)
      clear hs7 hs8
      go_wp2_with fail
      refine ⟨⟨_, _, todo', ?_, HP.out, HR2.out, hs9⟩, ?_⟩
      · rw [HS6.out]; simp
      rw [HS.out, hs9.iterSeen]
      exact HM.out

theorem nm_some {X : List Nm} {s : ByteArray} {a : Nm} (h : getK Nm.s s X = some a) : nmF X (.string s) = some (.map (some a.b)) := by simp [nmF, h]
theorem nm_none {X : List Nm} {s : ByteArray} (h : getK Nm.s s X = none) : nmF X (.string s) = none := by simp [nmF, h]

/-- What a bound lets. -/
def clampB (x : Int) : Int := max 0 (min x 256)
theorem clampB_bounds (x : Int) : 0 ≤ clampB x ∧ clampB x ≤ 256 := by unfold clampB; omega

/-- Of a name's sectors the numbers. -/
noncomputable def Mo.keys (m : Mo) (s : ByteArray) : List Int := (m.get s).map Prod.fst
/-- The extents that sectors off .. off + k - 1 would add to E. -/
noncomputable def addN (E : List Int) (off : Int) (k : Nat) : List Int := by classical exact ((List.range k).map fun i => (off + (i : Nat)) / 8).filter fun e => decide (e ∉ E)
theorem addN_succ (E : List Int) (off : Int) (k : Nat) : addN E off (k + 1) = addN E off k ++ (by classical exact if (off + (k : Nat)) / 8 ∈ E then [] else [(off + (k : Nat)) / 8]) := by
  classical
  unfold addN
  rw [List.range_succ, List.map_append, List.filter_append]
  congr 1
  by_cases h : (off + (k : Nat)) / 8 ∈ E <;> simp [h]
theorem addN_len_le (E : List Int) (off : Int) (k : Nat) : (addN E off k).length ≤ k := by
  classical
  unfold addN
  refine Nat.le_trans (List.length_filter_le _ _) ?_
  simp
noncomputable def Mo.withN (m : Mo) (s : ByteArray) (off n : Int) : Nat := m.spread + (dd (addN (extN (m.keys s)) (clampB off) (clampB n).toNat)).length
end Go.Proofs.Ytekbbpfnkbanjaa.Ch
