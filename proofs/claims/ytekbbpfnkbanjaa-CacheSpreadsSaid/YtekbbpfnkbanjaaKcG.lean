
/-
  The cache's functions over a cache in memory: Sectors.
-/
import Derived.Test.YtekbbpfnkbanjaaKcF
namespace Go.Proofs.Ytekbbpfnkbanjaa.Ch
open Go Go.RowKit Go.Sl Go.BigFrame
set_option linter.unusedVariables false
set_option linter.unusedSimpArgs false

noncomputable def Mo.sect (m : Mo) (s : ByteArray) (x : Int) : List (Int × List UInt8) := by classical exact (m.get s).filter fun p => decide (p.1 / 8 = x)
theorem NmOk.reads {n : Nm} (h : NmOk n) {s : Sec} (hs : s ∈ n.l) {W w : World} {L : List Atom} (hS : Sat W w (secAt n.l ++ L)) : Reads w s.v s.d.length (bts s.d) :=
  (h.secs s hs).row.reads (F := secAt (outK Sec.k s.k n.l) ++ L) (hS.use fun x => by
    have h1 := h.cnt hs x
    simp only [cnt_append] at h1 ⊢
    omega)

/-- What Sectors of an extent lays into its map, when it has come by the sectors dn. -/
structure Picked (x : Int) (dn l : List Sec) : Prop where
  apart : (l.map Sec.k).Nodup
  secs : ∀ s ∈ l, SecOk s
  perm : (l.map Sec.abs).Perm ((dn.map Sec.abs).filter fun p => decide (p.1 / 8 = x))

theorem Picked.start (x : Int) : Picked x [] [] := ⟨by simp, by simp, by simp⟩
theorem Picked.none {x : Int} {dn l : List Sec} (h : Picked x dn l) {k : Int} (hk : ∀ t ∈ dn, t.k ≠ k) : getK Sec.k k l = none := by
  rw [getK_none]
  intro t ht e
  have h1 := h.perm.subset (List.mem_map.2 ⟨t, ht, rfl⟩)
  obtain ⟨s, hs, he⟩ := List.mem_map.1 (List.mem_filter.1 h1).1
  have h2 : s.k = t.k := congrArg Prod.fst he
  exact hk s hs (by rw [h2, e])
theorem Picked.skip {x : Int} {dn l : List Sec} (h : Picked x dn l) {a : Sec} (ha : a.k / 8 ≠ x) : Picked x (dn ++ [a]) l :=
  ⟨h.apart, h.secs, by
    rw [List.map_append, List.filter_append]
    have : ([a].map Sec.abs).filter (fun p => decide (p.1 / 8 = x)) = [] := by simp [Sec.abs, ha]
    rw [this, List.append_nil]
    exact h.perm⟩
theorem Picked.add {x : Int} {dn l : List Sec} (h : Picked x dn l) {a : Sec} (ha : a.k / 8 = x) {v : Value} {R : List Atom} (ho : SecOk ⟨a.k, a.d, v, R⟩) (hk : ∀ t ∈ dn, t.k ≠ a.k) : Picked x (dn ++ [a]) (⟨a.k, a.d, v, R⟩ :: l) := by
  have hn := h.none hk
  refine ⟨?_, fun s hs => ?_, ?_⟩
  · have := put_nodup (key := Sec.k) (a := (⟨a.k, a.d, v, R⟩ : Sec)) h.apart
    rw [outK_none hn] at this
    exact this
  · rcases List.mem_cons.1 hs with rfl | hs
    · exact ho
    · exact h.secs s hs
  · rw [List.map_append, List.filter_append]
    have : ([a].map Sec.abs).filter (fun p => decide (p.1 / 8 = x)) = [a.abs] := by simp [Sec.abs, ha]
    rw [this, List.map_cons]
    exact (h.perm.cons _).trans (List.perm_append_singleton _ _).symm

set_option maxHeartbeats 2000000 in
theorem cache_sectors_none (bc : Nat) (m : Mo) (A : List Atom) (s : ByteArray) (x : Int) (W w : World) (L : List Atom) (hA : CaA bc m A) (hs : Sat W w (A ++ L)) (hno : getK Prod.fst s m = none) :
    Calls Try.prog 10 #[.pointer (some ⟨bc, 0, none⟩), .string s, .int .i64 x] w fun e w' => ∃ z l', e = .returned (.map (some z)) ∧ NmOk ⟨s, z, l'⟩ ∧ (l'.map Sec.abs).Perm (m.sect s x) ∧ Sat W w' (nmAt ⟨s, z, l'⟩ ++ (A ++ L)) := by
  classical
  have hz9 : m.sect s x = [] := by unfold Mo.sect Mo.get; rw [hno]; rfl
  rw [hz9]
  have hmm := @run_makeMap Try.prog
  obtain ⟨bm, X, rfl, hok, rfl⟩ := hA
  rw [getK_map Nm.abs Nm.abs_fst] at hno
  have hno : getK Nm.s s X = none := by simpa using hno
  have hs0 := newMap_sl hs (.int .i64)
  have c0 : (w.alloc (.map #[] 0)).cell? ⟨bc, 0, none⟩ = some (.map (some bm)) := hs0.cell m1 0
  have hlk := lookup_sl (P := Try.prog) (t := 40) (key := .string s) (z := .map none) hs0 (b := bm) (d := .string) (f := nmF X) (n := X.length) m2 Try.underlying40 Try.underlying9 trivial (Try.zeroValue35 _) false
  rw [nm_none hno] at hlk
  simp only [Bool.false_eq_true, if_false, Option.getD_none] at hlk
  have hrr := run_range_nilMap (P := Try.prog) (w.alloc (.map #[] 0)) 35 _ _ Try.underlying35
  have hnx : ∀ ty, (Instr.next (.pointer (some ⟨(w.alloc (.map #[] 0)).heap.size, 0, none⟩)) false ty).run Try.prog ((w.alloc (.map #[] 0)).alloc (.mapIter none 0 #[] 0)) = _ := fun ty => run_next_nilMap _ ty 0 0 #[]
  have hs2 := hs0.alloc (.mapIter none 0 #[] 0)
  have hz : (w.alloc (.map #[] 0)).heap.size = w.heap.size + 1 := by simp
  rw [hz] at hnx hrr
  generalize hw1 : w.alloc (.map #[] 0) = w1 at *
  generalize hw2 : w1.alloc (.mapIter none 0 #[] 0) = w2 at *
  have h8 : ∀ t w, (Instr.makeMap t none).run Try.prog w = .ok (.map (some w.heap.size)) (w.alloc (.map #[] 0)) := hmm
  clear hs hs0 hok hno hz9
  go_enter Try.func10, Try.ntmps10
  go_wp2_with fail
  go_loopw [8, 9] (fun _ _ wr => wr = w2) (fun _ _ _ => 0)
  case atStart => rfl
  case round =>
    subst hrel
    go_wp2_with fail
    go_ret
    refine ⟨w.heap.size, [], rfl, ⟨by simp, by simp⟩, by simp, ?_⟩
    have e6 : nmAt ⟨s, w.heap.size, []⟩ = [mapA w.heap.size (.int .i64) (fun _ => none) 0] := by
      simp only [nmAt, secF_nil, secAt_nil, List.length_nil]
    rw [e6]
    exact hs2

set_option maxHeartbeats 2000000 in
theorem cache_sectors_some (bc : Nat) (m : Mo) (A : List Atom) (s : ByteArray) (x : Int) (W w : World) (L : List Atom) (hA : CaA bc m A) (hs : Sat W w (A ++ L)) (hno : getK Prod.fst s m ≠ none) :
    Calls Try.prog 10 #[.pointer (some ⟨bc, 0, none⟩), .string s, .int .i64 x] w fun e w' => ∃ z l', e = .returned (.map (some z)) ∧ NmOk ⟨s, z, l'⟩ ∧ (l'.map Sec.abs).Perm (m.sect s x) ∧ Sat W w' (nmAt ⟨s, z, l'⟩ ++ (A ++ L)) := by
  classical
  have hmm := @run_makeMap Try.prog
  obtain ⟨bm, X, rfl, hok, rfl⟩ := hA
  rw [getK_map Nm.abs Nm.abs_fst] at hno
  obtain ⟨a, hga⟩ : ∃ a, getK Nm.s s X = some a := by
    cases h : getK Nm.s s X with
    | none => exact absurd (by simp [h]) hno
    | some a => exact ⟨a, rfl⟩
  have hse : (Mo.sect (X.map Nm.abs) s x) = (a.l.map Sec.abs).filter fun p => decide (p.1 / 8 = x) := by
    unfold Mo.sect
    rw [get_abs, hga]
    rfl
  rw [hse]
  obtain ⟨haX, rfl⟩ := getK_some hga
  have hs0 := newMap_sl hs (.int .i64)
  have c0 : (w.alloc (.map #[] 0)).cell? ⟨bc, 0, none⟩ = some (.map (some bm)) := hs0.cell m1 0
  have hlk := lookup_sl (P := Try.prog) (t := 40) (key := .string a.s) (z := .map none) hs0 (b := bm) (d := .string) (f := nmF X) (n := X.length) m2 Try.underlying40 Try.underlying9 trivial (Try.zeroValue35 _) false
  rw [nm_some hga] at hlk
  simp only [Bool.false_eq_true, if_false, Option.getD_some] at hlk
  have hnm := hok.nms a haX
  obtain ⟨F, hF⟩ : ∃ F, F = cellsA bc #[.map (some bm)] 42 :: mapA bm .string (nmF X) X.length :: (nmsAt (outK Nm.s a.s X) ++ L) := ⟨_, rfl⟩
  have hs1 : Sat W (w.alloc (.map #[] 0)) (mapA a.b (.int .i64) (secF a.l) a.l.length :: (mapA w.heap.size (.int .i64) (fun _ => none) 0 :: (secAt a.l ++ F))) := by
    have h := hok.split haX (L := mapA w.heap.size (.int .i64) (fun _ => none) 0 :: cellsA bc #[.map (some bm)] 42 :: mapA bm .string (nmF X) X.length :: L) (hs0.use (by intro x; simp only [cnt_append, cnt_cons, cnt_nil]; omega))
    rw [hF]
    exact h.use (by intro x; simp only [cnt_append, cnt_cons, cnt_nil]; omega)
  obtain ⟨es, clock, hm, hsE⟩ := Sat.openMap hs1
  obtain ⟨hrr, hsR⟩ := range_sl (P := Try.prog) Try.underlying35 hsE
  have hr0 : RngL es #[] (fun a : Sec => .int .i64 a.k) (fun a => a.v) a.l := rng_start hm a.l (sec_keys hnm.apart) (secF_iff a.l hnm.apart)
  have hz : (w.alloc (.map #[] 0)).heap.size = w.heap.size + 1 := by simp
  have HFF := Lib.hid hF
  have HOK := Lib.hid hok
  have HNM := Lib.hid hnm
  have HAX := Lib.hid haX
  have HGA := Lib.hid hga
  clear hF hok hnm hs hs0 hs1 hse hno hsE haX hga
  go_enter Try.func10, Try.ntmps10
  go_wp2_with fail
  rw [hz] at hsR
  clear hmm hrr hz c0 hlk
  generalize w.heap.size + 1 = rr at *
  generalize w.heap.size = z at *
  have HR0 := Lib.hid hr0
  clear hr0
  go_loopw [8, 9] (fun _ _ wr => ∃ seen dn todo l', (dn ++ todo).Perm a.l ∧ RngL es seen (fun a : Sec => .int .i64 a.k) (fun a => a.v) todo ∧ Picked x dn l' ∧ Sat W wr (iterA rr a.b clock seen :: mapE a.b es clock :: mapA z (.int .i64) (secF l') l'.length :: (secAt l' ++ (secAt a.l ++ F)))) (fun _ _ wr => (leftOf es (wr.iterSeen rr)).size)
  case atStart => exact ⟨#[], [], a.l, [], by simp, HR0.out, Picked.start x, by rw [secF_nil, secAt_nil]; exact hsR⟩
  case round =>
    clear hsR
    obtain ⟨seen, dn, todo, l', hp, hr, hpk, hs1⟩ := hrel
    have hseen := hs1.iterSeen
    rcases next_sl (P := Try.prog) 0 hm hs1 with ⟨h0, hn0⟩ | ⟨e, he, w4, hnx, hs4⟩
    · have ht := rng_end hr h0
      subst ht
      rw [List.append_nil] at hp
      have HP := Lib.hid hp
      have HPK := Lib.hid hpk
      clear hr hp hpk hseen
      go_wp2_with fail
      go_ret
      have hs5 : Sat W wr (mapE a.b es clock :: (mapA z (.int .i64) (secF l') l'.length :: (secAt l' ++ (secAt a.l ++ F)))) := hs1.use (by intro x; simp only [cnt_append, cnt_cons, cnt_nil]; omega)
      have hs6 := Sat.shutMap hm hs5
      rw [HFF.out] at hs6
      have hs7 := HOK.out.join HAX.out (L := nmAt ⟨a.s, z, l'⟩ ++ (cellsA bc #[.map (some bm)] 42 :: mapA bm .string (nmF X) X.length :: L)) (hs6.use (by intro y; simp only [nmAt, cnt_append, cnt_cons, cnt_nil]; omega))
      refine ⟨z, l', rfl, ⟨HPK.out.apart, HPK.out.secs⟩, HPK.out.perm.trans ((HP.out.map _).filter _), hs7.use (by intro x; simp only [cnt_append, cnt_cons, cnt_nil]; omega)⟩
    · obtain ⟨q, todo', hpt, hek, hev, hr2⟩ := rng_next hm.stamps hr he
      have hent := entry_sl (P := Try.prog) hm he hs4
      rw [hek, hev] at hnx hent
      have hms := left_shrinks es seen e he
      have hqt : q ∈ todo := hpt.symm.subset (List.mem_cons_self ..)
      have hql : q ∈ a.l := hp.subset (List.mem_append_right _ hqt)
      have hqo := HNM.out.secs q hql
      have b0 := hqo.lo
      have b1 := hqo.hi
      have hkn : ∀ t ∈ dn, t.k ≠ q.k := by
        have hnd : ((dn ++ todo).map Sec.k).Nodup := (hp.map Sec.k).nodup_iff.2 HNM.out.apart
        rw [List.map_append, List.nodup_append] at hnd
        intro t ht e
        exact hnd.2.2 t.k (List.mem_map.2 ⟨t, ht, rfl⟩) q.k (List.mem_map.2 ⟨q, hqt, rfl⟩) e
      have hp2 : ((dn ++ [q]) ++ todo').Perm a.l := by
        refine List.Perm.trans ?_ hp
        rw [List.append_assoc]
        exact List.Perm.append_left dn hpt.symm
      have HM := Lib.hid hms
      have HS := Lib.hid hseen
      have HP := Lib.hid hp2
      have HR2 := Lib.hid hr2
      have HPK := Lib.hid hpk
      by_cases hx : q.k / 8 = x
      · have hrd := HNM.out.reads hql (L := iterA rr a.b clock (seen.push e.born) :: mapE a.b es clock :: mapA z (.int .i64) (secF l') l'.length :: (secAt l' ++ F)) (hs4.use (by intro x; simp only [cnt_append, cnt_cons, cnt_nil]; omega))
        have HCL := Lib.hid (clone_any q.v q.d W w4 _ hrd (by rw [hqo.len]; decide) hs4)
        have HQO := Lib.hid hqo
        have HKN := Lib.hid hkn
        have HX := Lib.hid hx
        have hx2 : (q.k / 8 == x) = true := by simpa using hx
        obtain ⟨qa, qc, hqv⟩ := reads_shape hrd
        rw [hqv] at hent hnx HCL
        have HQV := Lib.hid hqv
        clear hs1 hms hseen hp hp2 hpt hr hr2 hs4 hqt hql hek hev hqo hkn hpk hrd hqv hx
        go_wp2_with fail
        refine HCL.out.mono ?_; rintro r w5 ⟨v', R, rfl, hr, hs5⟩
        have hs6 : Sat W w5 (mapA z (.int .i64) (secF l') l'.length :: (R ++ (iterA rr a.b clock (seen.push e.born) :: mapE a.b es clock :: (secAt l' ++ (secAt a.l ++ F))))) := hs5.use (by intro x; simp only [cnt_append, cnt_cons, cnt_nil]; omega)
        obtain ⟨w6, hr6, hs7⟩ := mapUpdate_sl (P := Try.prog) (t := 35) (key := .int .i64 q.k) hs6 Try.underlying35 Try.underlying3 rfl v'
        have hno := HPK.out.none HKN.out
        have e1 := secF_put l' ⟨q.k, q.d, v', R⟩
        simp only [outK_none hno] at e1
        rw [e1] at hs7
        have e2 : (if (secF l' (.int .i64 q.k)).isSome then l'.length else l'.length + 1) = ((⟨q.k, q.d, v', R⟩ : Sec) :: l').length := by simp [secF, hno]
        rw [e2] at hs7
        have HPA := Lib.hid (HPK.out.add HX.out (v := v') (R := R) ⟨hr, HQO.out.len, b0, b1⟩ HKN.out)
        have hs8 : Sat W w6 (iterA rr a.b clock (seen.push e.born) :: mapE a.b es clock :: mapA z (.int .i64) (secF (⟨q.k, q.d, v', R⟩ :: l')) ((⟨q.k, q.d, v', R⟩ : Sec) :: l').length :: (secAt (⟨q.k, q.d, v', R⟩ :: l') ++ (secAt a.l ++ F))) := by
          rw [secAt_cons]
          exact hs7.use (by intro x; simp only [cnt_append, cnt_cons, cnt_nil]; omega)
        have HS8 := Lib.hid hs8
        clear hs5 hs6 hs7 e1 e2 hno hr hs8
        go_wp2_with fail
        refine ⟨⟨_, _, todo', _, HP.out, HR2.out, HPA.out, HS8.out⟩, ?_⟩
        rw [HS.out, HS8.out.iterSeen]
        exact HM.out
      · have hx2 : (q.k / 8 == x) = false := by simpa using hx
        have HPA := Lib.hid (HPK.out.skip hx)
        clear hs1 hms hseen hp hp2 hpt hr hr2 hqt hql hek hev hqo hkn hpk hx
        go_wp2_with fail
        refine ⟨⟨_, _, todo', _, HP.out, HR2.out, HPA.out, hs4⟩, ?_⟩
        rw [HS.out, hs4.iterSeen]
        exact HM.out
end Go.Proofs.Ytekbbpfnkbanjaa.Ch
