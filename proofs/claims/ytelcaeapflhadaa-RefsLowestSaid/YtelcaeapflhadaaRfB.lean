/-
  Package refs: Settle and New.
-/
import Derived.Test.YtelcaeapflhadaaRfA
import Derived.Test.YtelcaeapflhadaaPkJ
namespace Go.Proofs.Ytelcaeapflhadaa.Rf
set_option linter.unusedSimpArgs false
open Go Go.RowKit Go.Sl Go.BigFrame Go.Proofs.Ytelcaeapflhadaa.Pk
set_option linter.unusedVariables false

theorem len_putS_le (S : List It) (id k : Int) : (putS S id k).length ≤ S.length + 1 := by
  unfold putS
  rw [(ins_perm _ _).length_eq, List.length_cons]
  have := List.length_filter_le (fun q : It => q.1 != id) S
  omega

/-- The keys that a range has handed out. -/
def Handed (es : Array MapEntry) (seen : Array Nat) (i : Int) : Prop := ∃ e ∈ es.toList, seen.contains e.born = true ∧ e.key = .int .i64 i

theorem handed_none (es : Array MapEntry) (i : Int) : ¬ Handed es #[] i := by
  rintro ⟨e, _, h, _⟩
  simp at h
theorem handed_push {f : Value → Option Value} {es : Array MapEntry} {clock n : Nat} {d : TypeDesc} (hm : MapOk d es clock f n) {seen : Array Nat} {e : MapEntry} (he : e ∈ es.toList) {i : Int} (hk : e.key = .int .i64 i) (j : Int) :
    Handed es (seen.push e.born) j ↔ Handed es seen j ∨ j = i := by
  constructor
  · rintro ⟨e', he', hc, hk'⟩
    rw [contains_push] at hc
    rcases Bool.or_eq_true_iff.1 hc with h | h
    · exact .inl ⟨e', he', h, hk'⟩
    · have := born_inj hm.stamps he' he (by simpa using h)
      subst this
      rw [hk] at hk'
      exact .inr (by simpa using hk'.symm)
  · rintro (⟨e', he', hc, hk'⟩ | rfl)
    · exact ⟨e', he', by rw [contains_push, hc]; rfl, hk'⟩
    · exact ⟨e, he, by rw [contains_push]; simp, hk⟩
theorem handed_all {f : Value → Option Value} {es : Array MapEntry} {clock n : Nat} {d : TypeDesc} (hm : MapOk d es clock f n) {hs : List Int} (hD : HeldOk f hs) {seen : Array Nat} (h0 : (leftOf es seen).size = 0) (i : Int) : Handed es seen i ↔ i ∈ hs := by
  constructor
  · rintro ⟨e, he, _, hk⟩
    obtain ⟨j, hj, e1, _⟩ := hD.gives _ _ (hm.gives e he)
    rw [hk] at e1
    have : i = j := by simpa using e1
    rw [this]
    exact hj
  · intro hi
    obtain ⟨e, he, hk, _⟩ := hm.all _ _ (hD.all i hi)
    exact ⟨e, he, all_seen es seen h0 e he, hk⟩

set_option maxHeartbeats 1000000 in
theorem refs_settle (r : Nat) (S : List It) (c : Int → Int) (hs : List Int) (A F : List Atom) (W w : World) (hA : RefsA r S c hs A) (hw : Sat W w (A ++ F)) (hb : S.length + hs.length < 900000) :
    Calls Try.prog 23 #[.pointer (some ⟨r, 0, none⟩)] w fun e w' => e = .returned (.tuple #[]) ∧ ∃ S' A', RefsA r S' c [] A' ∧ Sat W w' (A' ++ F) ∧ ∀ q, q ∈ S' ↔ q ∈ S ∧ q.1 ∉ hs ∨ ∃ i ∈ hs, q = (i, i) := by
  obtain ⟨lo, hi, h, mc, mh, fc, nc, fh, A0, rfl, hH, hC, hD⟩ := hA
  have c4 : w.cell? ⟨r, 4, none⟩ = some (.map (some mh)) := hw.cell m0 4
  obtain ⟨es, clock, hm, hsE⟩ := Sat.openMap (b := mh) (d := .int .i64) (f := fh) (n := hs.length) (L := cellsA r #[.int .i64 lo, .int .i64 hi, .pointer (some ⟨h, 0, none⟩), .map (some mc), .map (some mh)] 62 :: mapA mc (.int .i64) fc nc :: (A0 ++ F)) (hw.use (by intro x; simp only [cnt_append, cnt_cons, cnt_nil]; omega))
  obtain ⟨hrr, hsR⟩ := range_sl (P := Try.prog) Try.underlying40 hsE
  have hlen0 : (leftOf es #[]).size ≤ hs.length := by
    have := Array.size_filter_le (p := fun e : MapEntry => !(#[] : Array Nat).contains e.born) (xs := es)
    exact Nat.le_trans this (Nat.le_of_eq hm.size)
  go_enter Try.func23, Try.ntmps23
  go_wp2_with fail
  try rw [hrr]
  go_wp2_with fail
  clear c4 hw hsE hrr
  generalize w.heap.size = rr at *
  go_loopw [8] (fun _ wr => ∃ seen S1 A1, HeapA h S1 A1 ∧ S1.length + (leftOf es seen).size ≤ S.length + hs.length ∧ (∀ q, q ∈ S1 ↔ q ∈ S ∧ ¬ Handed es seen q.1 ∨ ∃ i, Handed es seen i ∧ q = (i, i)) ∧ Sat W wr (iterA rr mh clock seen :: mapE mh es clock :: cellsA r #[.int .i64 lo, .int .i64 hi, .pointer (some ⟨h, 0, none⟩), .map (some mc), .map (some mh)] 62 :: mapA mc (.int .i64) fc nc :: (A1 ++ F))) (fun _ wr => (leftOf es (wr.iterSeen rr)).size)
  case atStart => exact ⟨#[], S, A0, hH, by omega, fun q => ⟨fun hq => .inl ⟨hq, handed_none _ _⟩, fun hq => hq.elim (fun hq => hq.1) (fun ⟨i, hi, _⟩ => absurd hi (handed_none _ _))⟩, hsR⟩
  case round =>
    clear hsR hlen0 hH
    obtain ⟨seen, S1, A1, hH1, hl1, hmem, hs1⟩ := hrel
    have hseen := hs1.iterSeen
    rcases next_sl (P := Try.prog) 0 hm hs1 with ⟨h0, hn⟩ | ⟨e, he, w4, hn, hs4⟩
    · have hs5 : Sat W wr (mapE mh es clock :: iterA rr mh clock seen :: cellsA r #[.int .i64 lo, .int .i64 hi, .pointer (some ⟨h, 0, none⟩), .map (some mc), .map (some mh)] 62 :: mapA mc (.int .i64) fc nc :: (A1 ++ F)) := hs1.use (by intro x; simp only [cnt_append, cnt_cons, cnt_nil]; omega)
      have hs6 := Sat.shutMap hm hs5
      have c4 : wr.cell? ⟨r, 4, none⟩ = some (.map (some mh)) := hs6.cell m2 4
      obtain ⟨w5, hr5, hs7⟩ := clear_sl (P := Try.prog) (t := 40) hs6 Try.underlying40 0
      clear hs1 hs5 hs6
      have hq : ∀ q, q ∈ S1 ↔ q ∈ S ∧ q.1 ∉ hs ∨ ∃ i ∈ hs, q = (i, i) := fun q => by
        rw [hmem q]
        simp only [handed_all hm hD h0]
      have HQ := Lib.hid hq
      clear hmem hq hl1
      go_wp2_with fail
      go_end0
      exact ⟨rfl, S1, _, ⟨lo, hi, h, mc, mh, fc, nc, _, A1, rfl, hH1, hC, HeldOk.nil⟩, hs7.use (by intro x; simp only [cnt_append, cnt_cons, cnt_nil, List.length_nil]; omega), HQ.out⟩
    · have hin := (mem_left he).1
      obtain ⟨i, hi1, hik, hiv⟩ := hD.gives _ _ (hm.gives e hin)
      have hent := entry_sl (P := Try.prog) hm he hs4
      rw [hik, hiv] at hn hent
      have c2 : w4.cell? ⟨r, 2, none⟩ = some (.pointer (some ⟨h, 0, none⟩)) := hs4.cell m2 2
      have hms := left_shrinks es seen e he
      have hsA : Sat W w4 (A1 ++ (iterA rr mh clock (seen.push e.born) :: mapE mh es clock :: cellsA r #[.int .i64 lo, .int .i64 hi, .pointer (some ⟨h, 0, none⟩), .map (some mc), .map (some mh)] 62 :: mapA mc (.int .i64) fc nc :: F)) := hs4.use (by intro x; simp only [cnt_append, cnt_cons, cnt_nil]; omega)
      have hl2 := len_putS_le S1 i i
      have hmem2 : ∀ q, q ∈ putS S1 i i ↔ q ∈ S ∧ ¬ Handed es (seen.push e.born) q.1 ∨ ∃ j, Handed es (seen.push e.born) j ∧ q = (j, j) := fun q => by
        rw [mem_putS, hmem q]
        simp only [handed_push hm hin hik]
        constructor
        · rintro (rfl | ⟨⟨h1, h2⟩ | ⟨j, h1, rfl⟩, h3⟩)
          · exact .inr ⟨i, .inr rfl, rfl⟩
          · exact .inl ⟨h1, fun h4 => h4.elim h2 h3⟩
          · exact .inr ⟨j, .inl h1, rfl⟩
        · rintro (⟨h1, h2⟩ | ⟨j, h1 | rfl, rfl⟩)
          · exact .inr ⟨.inl ⟨h1, fun h3 => h2 (.inl h3)⟩, fun h3 => h2 (.inr h3)⟩
          · by_cases hj : j = i
            · subst hj; exact .inl rfl
            · exact .inr ⟨.inr ⟨j, h1, rfl⟩, hj⟩
          · exact .inl rfl
      have HM := Lib.hid hms
      have HS := Lib.hid hseen
      have HL := Lib.hid (show (putS S1 i i).length + (leftOf es (seen.push e.born)).size ≤ S.length + hs.length by omega)
      have HQ := Lib.hid hmem2
      have hb1 : S1.length < 900000 := by omega
      clear hs1 hms hseen hmem hmem2 hl1 hl2 hs4
      go_wp2_with fail
      refine (heap_put h S1 i i A1 _ W _ hH1 hsA hb1 _ rfl).mono ?_
      rintro ev w5 ⟨rfl, A2, hH2, hs5⟩
      have hs6 : Sat W w5 (iterA rr mh clock (seen.push e.born) :: mapE mh es clock :: cellsA r #[.int .i64 lo, .int .i64 hi, .pointer (some ⟨h, 0, none⟩), .map (some mc), .map (some mh)] 62 :: mapA mc (.int .i64) fc nc :: (A2 ++ F)) := hs5.use (by intro x; simp only [cnt_append, cnt_cons, cnt_nil]; omega)
      go_wp2_with fail
      refine ⟨⟨_, _, A2, hH2, HL.out, HQ.out, hs6⟩, ?_⟩
      rw [HS.out, hs6.iterSeen]
      exact HM.out

set_option maxHeartbeats 4000000 in
theorem refs_new (first last lo hi : Int) (n : Nat) (W w : World) (F : List Atom) (hs : Sat W w F) (h1 : first ≤ 1 ∧ lo = 1 ∨ 1 < first ∧ first ≤ 1000 ∧ lo = first ∨ 1000 < first ∧ lo = 1000) (h2 : last ≤ 1 ∧ hi = 1 ∨ 1 < last ∧ last ≤ 1000 ∧ hi = last ∨ 1000 < last ∧ hi = 1000) (hn : n = (hi - lo + 1).toNat) :
    Calls Try.prog 17 #[.int .i64 first, .int .i64 last] w fun e w' => ∃ r A, e = .returned (.pointer (some ⟨r, 0, none⟩)) ∧ RefsA r (run lo n) (fun _ => 0) [] A ∧ Sat W w' (A ++ F) := by
  rcases h1 with ⟨h1, rfl⟩ | ⟨h1, h1', rfl⟩ | ⟨h1, rfl⟩
  · have h1' : first ≤ 1000 := by omega
    rcases h2 with ⟨h2, rfl⟩ | ⟨h2, h2', rfl⟩ | ⟨h2, rfl⟩
    · have h2' : last ≤ 1000 := by omega
      have hn1 : n ≤ (1 - 1 + 1 : Int).toNat := Nat.le_of_eq hn
      have hn2 : (1 - 1 + 1 : Int).toNat ≤ n := Nat.le_of_eq hn.symm
      clear hn
      go_enter Try.func17, Try.ntmps17
      have hmm := @run_makeMap Try.prog
      go_wp2_with fail
      refine (heap_new W _ F hs).mono ?_; rintro e w1 ⟨h, A1, rfl, hA1, hs1⟩
      have hs2 := newMap_sl (newMap_sl hs1 (.int .i64)) (.int .i64)
      have hz : (w1.alloc (.map #[] 0)).heap.size = w1.heap.size + 1 := by simp
      have hs3 := hs2.newCells #[.int .i64 1, .int .i64 1, .pointer (some ⟨h, 0, none⟩), .map (some w1.heap.size), .map (some (w1.heap.size + 1))] 62
      have hz3 : ((w1.alloc (.map #[] 0)).alloc (.map #[] 0)).heap.size = w1.heap.size + 1 + 1 := by simp
      rw [hz3, hz] at hs3
      clear hs2 hz hz3 hs1
      go_wp2_with fail
      clear hmm hs
      generalize w1.heap.size = z at *
      generalize z + 1 = z1 at *
      generalize z1 + 1 = r at *
      go_loopw [6] (fun iv wr => ∃ (k : Nat) (A : List Atom), iv = .int .i64 (1 + k) ∧ k ≤ n ∧ HeapA h (run 1 k) A ∧ Sat W wr (cellsA r #[.int .i64 1, .int .i64 1, .pointer (some ⟨h, 0, none⟩), .map (some z), .map (some z1)] 62 :: mapA z1 (.int .i64) (fun _ => none) 0 :: mapA z (.int .i64) (fun _ => none) 0 :: (A ++ F))) (fun iv _ => n - (intOf iv - 1).toNat)
      case atStart => exact ⟨0, A1, by simp, Nat.zero_le _, hA1, hs3⟩
      case round =>
        clear hs3 hA1
        obtain ⟨k, A, rfl, hk, hA, hs⟩ := hrel
        have b0 : (0 : Int) ≤ k := by omega
        have b1 : (k : Int) ≤ 1000 := by omega
        have c1 : wr.cell? ⟨r, 1, none⟩ = some (.int .i64 1) := hs.cell m0 1
        have c2 : wr.cell? ⟨r, 2, none⟩ = some (.pointer (some ⟨h, 0, none⟩)) := hs.cell m0 2
        by_cases hkn : k < n
        · first
          | exfalso; omega
          | have d1 : decide (1 + (k : Int) ≤ 1) = true := by simp; omega
            have hsA : Sat W wr (A ++ (cellsA r #[.int .i64 1, .int .i64 1, .pointer (some ⟨h, 0, none⟩), .map (some z), .map (some z1)] 62 :: mapA z1 (.int .i64) (fun _ => none) 0 :: mapA z (.int .i64) (fun _ => none) 0 :: F)) := hs.use (by intro x; simp only [cnt_append, cnt_cons, cnt_nil]; omega)
            have HP := Lib.hid (run_put 1 k)
            go_wp2_with fail
            refine (heap_put h (run 1 k) _ _ A _ W _ hA hsA (by rw [run_len]; omega) false (run_fresh 1 k)).mono ?_
            rintro ev w2 ⟨rfl, A2, hA2, hs2⟩
            rw [HP.out] at hA2
            go_wp2_with fail
            refine ⟨⟨k + 1, A2, by simp; omega, by omega, hA2, hs2.use (by intro x; simp only [cnt_append, cnt_cons, cnt_nil]; omega)⟩, ?_⟩
            simp [intOf]
            omega
        · have d1 : decide (1 + (k : Int) ≤ 1) = false := by simp; omega
          have hkn' : k = n := by omega
          subst hkn'
          go_wp2_with fail
          go_ret
          exact ⟨r, rfl, _, ⟨1, 1, h, z, z1, _, 0, _, A, rfl, hA, CntOk.nil, HeldOk.nil⟩, hs.use (by intro x; simp only [cnt_append, cnt_cons, cnt_nil, List.length_nil]; omega)⟩
    · have h3 : 1 ≤ hi := by omega
      have hn1 : n ≤ (hi - 1 + 1 : Int).toNat := Nat.le_of_eq hn
      have hn2 : (hi - 1 + 1 : Int).toNat ≤ n := Nat.le_of_eq hn.symm
      clear hn
      go_enter Try.func17, Try.ntmps17
      have hmm := @run_makeMap Try.prog
      go_wp2_with fail
      refine (heap_new W _ F hs).mono ?_; rintro e w1 ⟨h, A1, rfl, hA1, hs1⟩
      have hs2 := newMap_sl (newMap_sl hs1 (.int .i64)) (.int .i64)
      have hz : (w1.alloc (.map #[] 0)).heap.size = w1.heap.size + 1 := by simp
      have hs3 := hs2.newCells #[.int .i64 1, .int .i64 hi, .pointer (some ⟨h, 0, none⟩), .map (some w1.heap.size), .map (some (w1.heap.size + 1))] 62
      have hz3 : ((w1.alloc (.map #[] 0)).alloc (.map #[] 0)).heap.size = w1.heap.size + 1 + 1 := by simp
      rw [hz3, hz] at hs3
      clear hs2 hz hz3 hs1
      go_wp2_with fail
      clear hmm hs
      generalize w1.heap.size = z at *
      generalize z + 1 = z1 at *
      generalize z1 + 1 = r at *
      go_loopw [6] (fun iv wr => ∃ (k : Nat) (A : List Atom), iv = .int .i64 (1 + k) ∧ k ≤ n ∧ HeapA h (run 1 k) A ∧ Sat W wr (cellsA r #[.int .i64 1, .int .i64 hi, .pointer (some ⟨h, 0, none⟩), .map (some z), .map (some z1)] 62 :: mapA z1 (.int .i64) (fun _ => none) 0 :: mapA z (.int .i64) (fun _ => none) 0 :: (A ++ F))) (fun iv _ => n - (intOf iv - 1).toNat)
      case atStart => exact ⟨0, A1, by simp, Nat.zero_le _, hA1, hs3⟩
      case round =>
        clear hs3 hA1
        obtain ⟨k, A, rfl, hk, hA, hs⟩ := hrel
        have b0 : (0 : Int) ≤ k := by omega
        have b1 : (k : Int) ≤ 1000 := by omega
        have c1 : wr.cell? ⟨r, 1, none⟩ = some (.int .i64 hi) := hs.cell m0 1
        have c2 : wr.cell? ⟨r, 2, none⟩ = some (.pointer (some ⟨h, 0, none⟩)) := hs.cell m0 2
        by_cases hkn : k < n
        · first
          | exfalso; omega
          | have d1 : decide (1 + (k : Int) ≤ hi) = true := by simp; omega
            have hsA : Sat W wr (A ++ (cellsA r #[.int .i64 1, .int .i64 hi, .pointer (some ⟨h, 0, none⟩), .map (some z), .map (some z1)] 62 :: mapA z1 (.int .i64) (fun _ => none) 0 :: mapA z (.int .i64) (fun _ => none) 0 :: F)) := hs.use (by intro x; simp only [cnt_append, cnt_cons, cnt_nil]; omega)
            have HP := Lib.hid (run_put 1 k)
            go_wp2_with fail
            refine (heap_put h (run 1 k) _ _ A _ W _ hA hsA (by rw [run_len]; omega) false (run_fresh 1 k)).mono ?_
            rintro ev w2 ⟨rfl, A2, hA2, hs2⟩
            rw [HP.out] at hA2
            go_wp2_with fail
            refine ⟨⟨k + 1, A2, by simp; omega, by omega, hA2, hs2.use (by intro x; simp only [cnt_append, cnt_cons, cnt_nil]; omega)⟩, ?_⟩
            simp [intOf]
            omega
        · have d1 : decide (1 + (k : Int) ≤ hi) = false := by simp; omega
          have hkn' : k = n := by omega
          subst hkn'
          go_wp2_with fail
          go_ret
          exact ⟨r, rfl, _, ⟨1, hi, h, z, z1, _, 0, _, A, rfl, hA, CntOk.nil, HeldOk.nil⟩, hs.use (by intro x; simp only [cnt_append, cnt_cons, cnt_nil, List.length_nil]; omega)⟩
    · have h3 : 1 ≤ last := by omega
      have hn1 : n ≤ (1000 - 1 + 1 : Int).toNat := Nat.le_of_eq hn
      have hn2 : (1000 - 1 + 1 : Int).toNat ≤ n := Nat.le_of_eq hn.symm
      clear hn
      go_enter Try.func17, Try.ntmps17
      have hmm := @run_makeMap Try.prog
      go_wp2_with fail
      refine (heap_new W _ F hs).mono ?_; rintro e w1 ⟨h, A1, rfl, hA1, hs1⟩
      have hs2 := newMap_sl (newMap_sl hs1 (.int .i64)) (.int .i64)
      have hz : (w1.alloc (.map #[] 0)).heap.size = w1.heap.size + 1 := by simp
      have hs3 := hs2.newCells #[.int .i64 1, .int .i64 1000, .pointer (some ⟨h, 0, none⟩), .map (some w1.heap.size), .map (some (w1.heap.size + 1))] 62
      have hz3 : ((w1.alloc (.map #[] 0)).alloc (.map #[] 0)).heap.size = w1.heap.size + 1 + 1 := by simp
      rw [hz3, hz] at hs3
      clear hs2 hz hz3 hs1
      go_wp2_with fail
      clear hmm hs
      generalize w1.heap.size = z at *
      generalize z + 1 = z1 at *
      generalize z1 + 1 = r at *
      go_loopw [6] (fun iv wr => ∃ (k : Nat) (A : List Atom), iv = .int .i64 (1 + k) ∧ k ≤ n ∧ HeapA h (run 1 k) A ∧ Sat W wr (cellsA r #[.int .i64 1, .int .i64 1000, .pointer (some ⟨h, 0, none⟩), .map (some z), .map (some z1)] 62 :: mapA z1 (.int .i64) (fun _ => none) 0 :: mapA z (.int .i64) (fun _ => none) 0 :: (A ++ F))) (fun iv _ => n - (intOf iv - 1).toNat)
      case atStart => exact ⟨0, A1, by simp, Nat.zero_le _, hA1, hs3⟩
      case round =>
        clear hs3 hA1
        obtain ⟨k, A, rfl, hk, hA, hs⟩ := hrel
        have b0 : (0 : Int) ≤ k := by omega
        have b1 : (k : Int) ≤ 1000 := by omega
        have c1 : wr.cell? ⟨r, 1, none⟩ = some (.int .i64 1000) := hs.cell m0 1
        have c2 : wr.cell? ⟨r, 2, none⟩ = some (.pointer (some ⟨h, 0, none⟩)) := hs.cell m0 2
        by_cases hkn : k < n
        · first
          | exfalso; omega
          | have d1 : decide (1 + (k : Int) ≤ 1000) = true := by simp; omega
            have hsA : Sat W wr (A ++ (cellsA r #[.int .i64 1, .int .i64 1000, .pointer (some ⟨h, 0, none⟩), .map (some z), .map (some z1)] 62 :: mapA z1 (.int .i64) (fun _ => none) 0 :: mapA z (.int .i64) (fun _ => none) 0 :: F)) := hs.use (by intro x; simp only [cnt_append, cnt_cons, cnt_nil]; omega)
            have HP := Lib.hid (run_put 1 k)
            go_wp2_with fail
            refine (heap_put h (run 1 k) _ _ A _ W _ hA hsA (by rw [run_len]; omega) false (run_fresh 1 k)).mono ?_
            rintro ev w2 ⟨rfl, A2, hA2, hs2⟩
            rw [HP.out] at hA2
            go_wp2_with fail
            refine ⟨⟨k + 1, A2, by simp; omega, by omega, hA2, hs2.use (by intro x; simp only [cnt_append, cnt_cons, cnt_nil]; omega)⟩, ?_⟩
            simp [intOf]
            omega
        · have d1 : decide (1 + (k : Int) ≤ 1000) = false := by simp; omega
          have hkn' : k = n := by omega
          subst hkn'
          go_wp2_with fail
          go_ret
          exact ⟨r, rfl, _, ⟨1, 1000, h, z, z1, _, 0, _, A, rfl, hA, CntOk.nil, HeldOk.nil⟩, hs.use (by intro x; simp only [cnt_append, cnt_cons, cnt_nil, List.length_nil]; omega)⟩
  · have h3 : 1 ≤ lo := by omega
    rcases h2 with ⟨h2, rfl⟩ | ⟨h2, h2', rfl⟩ | ⟨h2, rfl⟩
    · have h2' : last ≤ 1000 := by omega
      have hn1 : n ≤ (1 - lo + 1 : Int).toNat := Nat.le_of_eq hn
      have hn2 : (1 - lo + 1 : Int).toNat ≤ n := Nat.le_of_eq hn.symm
      clear hn
      go_enter Try.func17, Try.ntmps17
      have hmm := @run_makeMap Try.prog
      go_wp2_with fail
      refine (heap_new W _ F hs).mono ?_; rintro e w1 ⟨h, A1, rfl, hA1, hs1⟩
      have hs2 := newMap_sl (newMap_sl hs1 (.int .i64)) (.int .i64)
      have hz : (w1.alloc (.map #[] 0)).heap.size = w1.heap.size + 1 := by simp
      have hs3 := hs2.newCells #[.int .i64 lo, .int .i64 1, .pointer (some ⟨h, 0, none⟩), .map (some w1.heap.size), .map (some (w1.heap.size + 1))] 62
      have hz3 : ((w1.alloc (.map #[] 0)).alloc (.map #[] 0)).heap.size = w1.heap.size + 1 + 1 := by simp
      rw [hz3, hz] at hs3
      clear hs2 hz hz3 hs1
      go_wp2_with fail
      clear hmm hs
      generalize w1.heap.size = z at *
      generalize z + 1 = z1 at *
      generalize z1 + 1 = r at *
      go_loopw [6] (fun iv wr => ∃ (k : Nat) (A : List Atom), iv = .int .i64 (lo + k) ∧ k ≤ n ∧ HeapA h (run lo k) A ∧ Sat W wr (cellsA r #[.int .i64 lo, .int .i64 1, .pointer (some ⟨h, 0, none⟩), .map (some z), .map (some z1)] 62 :: mapA z1 (.int .i64) (fun _ => none) 0 :: mapA z (.int .i64) (fun _ => none) 0 :: (A ++ F))) (fun iv _ => n - (intOf iv - lo).toNat)
      case atStart => exact ⟨0, A1, by simp, Nat.zero_le _, hA1, hs3⟩
      case round =>
        clear hs3 hA1
        obtain ⟨k, A, rfl, hk, hA, hs⟩ := hrel
        have b0 : (0 : Int) ≤ k := by omega
        have b1 : (k : Int) ≤ 1000 := by omega
        have c1 : wr.cell? ⟨r, 1, none⟩ = some (.int .i64 1) := hs.cell m0 1
        have c2 : wr.cell? ⟨r, 2, none⟩ = some (.pointer (some ⟨h, 0, none⟩)) := hs.cell m0 2
        by_cases hkn : k < n
        · first
          | exfalso; omega
          | have d1 : decide (lo + (k : Int) ≤ 1) = true := by simp; omega
            have hsA : Sat W wr (A ++ (cellsA r #[.int .i64 lo, .int .i64 1, .pointer (some ⟨h, 0, none⟩), .map (some z), .map (some z1)] 62 :: mapA z1 (.int .i64) (fun _ => none) 0 :: mapA z (.int .i64) (fun _ => none) 0 :: F)) := hs.use (by intro x; simp only [cnt_append, cnt_cons, cnt_nil]; omega)
            have HP := Lib.hid (run_put lo k)
            go_wp2_with fail
            refine (heap_put h (run lo k) _ _ A _ W _ hA hsA (by rw [run_len]; omega) false (run_fresh lo k)).mono ?_
            rintro ev w2 ⟨rfl, A2, hA2, hs2⟩
            rw [HP.out] at hA2
            go_wp2_with fail
            refine ⟨⟨k + 1, A2, by simp; omega, by omega, hA2, hs2.use (by intro x; simp only [cnt_append, cnt_cons, cnt_nil]; omega)⟩, ?_⟩
            simp [intOf]
            omega
        · have d1 : decide (lo + (k : Int) ≤ 1) = false := by simp; omega
          have hkn' : k = n := by omega
          subst hkn'
          go_wp2_with fail
          go_ret
          exact ⟨r, rfl, _, ⟨lo, 1, h, z, z1, _, 0, _, A, rfl, hA, CntOk.nil, HeldOk.nil⟩, hs.use (by intro x; simp only [cnt_append, cnt_cons, cnt_nil, List.length_nil]; omega)⟩
    · have h4 : 1 ≤ hi := by omega
      have hn1 : n ≤ (hi - lo + 1 : Int).toNat := Nat.le_of_eq hn
      have hn2 : (hi - lo + 1 : Int).toNat ≤ n := Nat.le_of_eq hn.symm
      clear hn
      go_enter Try.func17, Try.ntmps17
      have hmm := @run_makeMap Try.prog
      go_wp2_with fail
      refine (heap_new W _ F hs).mono ?_; rintro e w1 ⟨h, A1, rfl, hA1, hs1⟩
      have hs2 := newMap_sl (newMap_sl hs1 (.int .i64)) (.int .i64)
      have hz : (w1.alloc (.map #[] 0)).heap.size = w1.heap.size + 1 := by simp
      have hs3 := hs2.newCells #[.int .i64 lo, .int .i64 hi, .pointer (some ⟨h, 0, none⟩), .map (some w1.heap.size), .map (some (w1.heap.size + 1))] 62
      have hz3 : ((w1.alloc (.map #[] 0)).alloc (.map #[] 0)).heap.size = w1.heap.size + 1 + 1 := by simp
      rw [hz3, hz] at hs3
      clear hs2 hz hz3 hs1
      go_wp2_with fail
      clear hmm hs
      generalize w1.heap.size = z at *
      generalize z + 1 = z1 at *
      generalize z1 + 1 = r at *
      go_loopw [6] (fun iv wr => ∃ (k : Nat) (A : List Atom), iv = .int .i64 (lo + k) ∧ k ≤ n ∧ HeapA h (run lo k) A ∧ Sat W wr (cellsA r #[.int .i64 lo, .int .i64 hi, .pointer (some ⟨h, 0, none⟩), .map (some z), .map (some z1)] 62 :: mapA z1 (.int .i64) (fun _ => none) 0 :: mapA z (.int .i64) (fun _ => none) 0 :: (A ++ F))) (fun iv _ => n - (intOf iv - lo).toNat)
      case atStart => exact ⟨0, A1, by simp, Nat.zero_le _, hA1, hs3⟩
      case round =>
        clear hs3 hA1
        obtain ⟨k, A, rfl, hk, hA, hs⟩ := hrel
        have b0 : (0 : Int) ≤ k := by omega
        have b1 : (k : Int) ≤ 1000 := by omega
        have c1 : wr.cell? ⟨r, 1, none⟩ = some (.int .i64 hi) := hs.cell m0 1
        have c2 : wr.cell? ⟨r, 2, none⟩ = some (.pointer (some ⟨h, 0, none⟩)) := hs.cell m0 2
        by_cases hkn : k < n
        · first
          | exfalso; omega
          | have d1 : decide (lo + (k : Int) ≤ hi) = true := by simp; omega
            have hsA : Sat W wr (A ++ (cellsA r #[.int .i64 lo, .int .i64 hi, .pointer (some ⟨h, 0, none⟩), .map (some z), .map (some z1)] 62 :: mapA z1 (.int .i64) (fun _ => none) 0 :: mapA z (.int .i64) (fun _ => none) 0 :: F)) := hs.use (by intro x; simp only [cnt_append, cnt_cons, cnt_nil]; omega)
            have HP := Lib.hid (run_put lo k)
            go_wp2_with fail
            refine (heap_put h (run lo k) _ _ A _ W _ hA hsA (by rw [run_len]; omega) false (run_fresh lo k)).mono ?_
            rintro ev w2 ⟨rfl, A2, hA2, hs2⟩
            rw [HP.out] at hA2
            go_wp2_with fail
            refine ⟨⟨k + 1, A2, by simp; omega, by omega, hA2, hs2.use (by intro x; simp only [cnt_append, cnt_cons, cnt_nil]; omega)⟩, ?_⟩
            simp [intOf]
            omega
        · have d1 : decide (lo + (k : Int) ≤ hi) = false := by simp; omega
          have hkn' : k = n := by omega
          subst hkn'
          go_wp2_with fail
          go_ret
          exact ⟨r, rfl, _, ⟨lo, hi, h, z, z1, _, 0, _, A, rfl, hA, CntOk.nil, HeldOk.nil⟩, hs.use (by intro x; simp only [cnt_append, cnt_cons, cnt_nil, List.length_nil]; omega)⟩
    · have h4 : 1 ≤ last := by omega
      have hn1 : n ≤ (1000 - lo + 1 : Int).toNat := Nat.le_of_eq hn
      have hn2 : (1000 - lo + 1 : Int).toNat ≤ n := Nat.le_of_eq hn.symm
      clear hn
      go_enter Try.func17, Try.ntmps17
      have hmm := @run_makeMap Try.prog
      go_wp2_with fail
      refine (heap_new W _ F hs).mono ?_; rintro e w1 ⟨h, A1, rfl, hA1, hs1⟩
      have hs2 := newMap_sl (newMap_sl hs1 (.int .i64)) (.int .i64)
      have hz : (w1.alloc (.map #[] 0)).heap.size = w1.heap.size + 1 := by simp
      have hs3 := hs2.newCells #[.int .i64 lo, .int .i64 1000, .pointer (some ⟨h, 0, none⟩), .map (some w1.heap.size), .map (some (w1.heap.size + 1))] 62
      have hz3 : ((w1.alloc (.map #[] 0)).alloc (.map #[] 0)).heap.size = w1.heap.size + 1 + 1 := by simp
      rw [hz3, hz] at hs3
      clear hs2 hz hz3 hs1
      go_wp2_with fail
      clear hmm hs
      generalize w1.heap.size = z at *
      generalize z + 1 = z1 at *
      generalize z1 + 1 = r at *
      go_loopw [6] (fun iv wr => ∃ (k : Nat) (A : List Atom), iv = .int .i64 (lo + k) ∧ k ≤ n ∧ HeapA h (run lo k) A ∧ Sat W wr (cellsA r #[.int .i64 lo, .int .i64 1000, .pointer (some ⟨h, 0, none⟩), .map (some z), .map (some z1)] 62 :: mapA z1 (.int .i64) (fun _ => none) 0 :: mapA z (.int .i64) (fun _ => none) 0 :: (A ++ F))) (fun iv _ => n - (intOf iv - lo).toNat)
      case atStart => exact ⟨0, A1, by simp, Nat.zero_le _, hA1, hs3⟩
      case round =>
        clear hs3 hA1
        obtain ⟨k, A, rfl, hk, hA, hs⟩ := hrel
        have b0 : (0 : Int) ≤ k := by omega
        have b1 : (k : Int) ≤ 1000 := by omega
        have c1 : wr.cell? ⟨r, 1, none⟩ = some (.int .i64 1000) := hs.cell m0 1
        have c2 : wr.cell? ⟨r, 2, none⟩ = some (.pointer (some ⟨h, 0, none⟩)) := hs.cell m0 2
        by_cases hkn : k < n
        · first
          | exfalso; omega
          | have d1 : decide (lo + (k : Int) ≤ 1000) = true := by simp; omega
            have hsA : Sat W wr (A ++ (cellsA r #[.int .i64 lo, .int .i64 1000, .pointer (some ⟨h, 0, none⟩), .map (some z), .map (some z1)] 62 :: mapA z1 (.int .i64) (fun _ => none) 0 :: mapA z (.int .i64) (fun _ => none) 0 :: F)) := hs.use (by intro x; simp only [cnt_append, cnt_cons, cnt_nil]; omega)
            have HP := Lib.hid (run_put lo k)
            go_wp2_with fail
            refine (heap_put h (run lo k) _ _ A _ W _ hA hsA (by rw [run_len]; omega) false (run_fresh lo k)).mono ?_
            rintro ev w2 ⟨rfl, A2, hA2, hs2⟩
            rw [HP.out] at hA2
            go_wp2_with fail
            refine ⟨⟨k + 1, A2, by simp; omega, by omega, hA2, hs2.use (by intro x; simp only [cnt_append, cnt_cons, cnt_nil]; omega)⟩, ?_⟩
            simp [intOf]
            omega
        · have d1 : decide (lo + (k : Int) ≤ 1000) = false := by simp; omega
          have hkn' : k = n := by omega
          subst hkn'
          go_wp2_with fail
          go_ret
          exact ⟨r, rfl, _, ⟨lo, 1000, h, z, z1, _, 0, _, A, rfl, hA, CntOk.nil, HeldOk.nil⟩, hs.use (by intro x; simp only [cnt_append, cnt_cons, cnt_nil, List.length_nil]; omega)⟩
  · have h3 : 1 ≤ first := by omega
    rcases h2 with ⟨h2, rfl⟩ | ⟨h2, h2', rfl⟩ | ⟨h2, rfl⟩
    · have h2' : last ≤ 1000 := by omega
      have hn1 : n ≤ (1 - 1000 + 1 : Int).toNat := Nat.le_of_eq hn
      have hn2 : (1 - 1000 + 1 : Int).toNat ≤ n := Nat.le_of_eq hn.symm
      clear hn
      go_enter Try.func17, Try.ntmps17
      have hmm := @run_makeMap Try.prog
      go_wp2_with fail
      refine (heap_new W _ F hs).mono ?_; rintro e w1 ⟨h, A1, rfl, hA1, hs1⟩
      have hs2 := newMap_sl (newMap_sl hs1 (.int .i64)) (.int .i64)
      have hz : (w1.alloc (.map #[] 0)).heap.size = w1.heap.size + 1 := by simp
      have hs3 := hs2.newCells #[.int .i64 1000, .int .i64 1, .pointer (some ⟨h, 0, none⟩), .map (some w1.heap.size), .map (some (w1.heap.size + 1))] 62
      have hz3 : ((w1.alloc (.map #[] 0)).alloc (.map #[] 0)).heap.size = w1.heap.size + 1 + 1 := by simp
      rw [hz3, hz] at hs3
      clear hs2 hz hz3 hs1
      go_wp2_with fail
      clear hmm hs
      generalize w1.heap.size = z at *
      generalize z + 1 = z1 at *
      generalize z1 + 1 = r at *
      go_loopw [6] (fun iv wr => ∃ (k : Nat) (A : List Atom), iv = .int .i64 (1000 + k) ∧ k ≤ n ∧ HeapA h (run 1000 k) A ∧ Sat W wr (cellsA r #[.int .i64 1000, .int .i64 1, .pointer (some ⟨h, 0, none⟩), .map (some z), .map (some z1)] 62 :: mapA z1 (.int .i64) (fun _ => none) 0 :: mapA z (.int .i64) (fun _ => none) 0 :: (A ++ F))) (fun iv _ => n - (intOf iv - 1000).toNat)
      case atStart => exact ⟨0, A1, by simp, Nat.zero_le _, hA1, hs3⟩
      case round =>
        clear hs3 hA1
        obtain ⟨k, A, rfl, hk, hA, hs⟩ := hrel
        have b0 : (0 : Int) ≤ k := by omega
        have b1 : (k : Int) ≤ 1000 := by omega
        have c1 : wr.cell? ⟨r, 1, none⟩ = some (.int .i64 1) := hs.cell m0 1
        have c2 : wr.cell? ⟨r, 2, none⟩ = some (.pointer (some ⟨h, 0, none⟩)) := hs.cell m0 2
        by_cases hkn : k < n
        · first
          | exfalso; omega
          | have d1 : decide (1000 + (k : Int) ≤ 1) = true := by simp; omega
            have hsA : Sat W wr (A ++ (cellsA r #[.int .i64 1000, .int .i64 1, .pointer (some ⟨h, 0, none⟩), .map (some z), .map (some z1)] 62 :: mapA z1 (.int .i64) (fun _ => none) 0 :: mapA z (.int .i64) (fun _ => none) 0 :: F)) := hs.use (by intro x; simp only [cnt_append, cnt_cons, cnt_nil]; omega)
            have HP := Lib.hid (run_put 1000 k)
            go_wp2_with fail
            refine (heap_put h (run 1000 k) _ _ A _ W _ hA hsA (by rw [run_len]; omega) false (run_fresh 1000 k)).mono ?_
            rintro ev w2 ⟨rfl, A2, hA2, hs2⟩
            rw [HP.out] at hA2
            go_wp2_with fail
            refine ⟨⟨k + 1, A2, by simp; omega, by omega, hA2, hs2.use (by intro x; simp only [cnt_append, cnt_cons, cnt_nil]; omega)⟩, ?_⟩
            simp [intOf]
            omega
        · have d1 : decide (1000 + (k : Int) ≤ 1) = false := by simp; omega
          have hkn' : k = n := by omega
          subst hkn'
          go_wp2_with fail
          go_ret
          exact ⟨r, rfl, _, ⟨1000, 1, h, z, z1, _, 0, _, A, rfl, hA, CntOk.nil, HeldOk.nil⟩, hs.use (by intro x; simp only [cnt_append, cnt_cons, cnt_nil, List.length_nil]; omega)⟩
    · have h4 : 1 ≤ hi := by omega
      have hn1 : n ≤ (hi - 1000 + 1 : Int).toNat := Nat.le_of_eq hn
      have hn2 : (hi - 1000 + 1 : Int).toNat ≤ n := Nat.le_of_eq hn.symm
      clear hn
      go_enter Try.func17, Try.ntmps17
      have hmm := @run_makeMap Try.prog
      go_wp2_with fail
      refine (heap_new W _ F hs).mono ?_; rintro e w1 ⟨h, A1, rfl, hA1, hs1⟩
      have hs2 := newMap_sl (newMap_sl hs1 (.int .i64)) (.int .i64)
      have hz : (w1.alloc (.map #[] 0)).heap.size = w1.heap.size + 1 := by simp
      have hs3 := hs2.newCells #[.int .i64 1000, .int .i64 hi, .pointer (some ⟨h, 0, none⟩), .map (some w1.heap.size), .map (some (w1.heap.size + 1))] 62
      have hz3 : ((w1.alloc (.map #[] 0)).alloc (.map #[] 0)).heap.size = w1.heap.size + 1 + 1 := by simp
      rw [hz3, hz] at hs3
      clear hs2 hz hz3 hs1
      go_wp2_with fail
      clear hmm hs
      generalize w1.heap.size = z at *
      generalize z + 1 = z1 at *
      generalize z1 + 1 = r at *
      go_loopw [6] (fun iv wr => ∃ (k : Nat) (A : List Atom), iv = .int .i64 (1000 + k) ∧ k ≤ n ∧ HeapA h (run 1000 k) A ∧ Sat W wr (cellsA r #[.int .i64 1000, .int .i64 hi, .pointer (some ⟨h, 0, none⟩), .map (some z), .map (some z1)] 62 :: mapA z1 (.int .i64) (fun _ => none) 0 :: mapA z (.int .i64) (fun _ => none) 0 :: (A ++ F))) (fun iv _ => n - (intOf iv - 1000).toNat)
      case atStart => exact ⟨0, A1, by simp, Nat.zero_le _, hA1, hs3⟩
      case round =>
        clear hs3 hA1
        obtain ⟨k, A, rfl, hk, hA, hs⟩ := hrel
        have b0 : (0 : Int) ≤ k := by omega
        have b1 : (k : Int) ≤ 1000 := by omega
        have c1 : wr.cell? ⟨r, 1, none⟩ = some (.int .i64 hi) := hs.cell m0 1
        have c2 : wr.cell? ⟨r, 2, none⟩ = some (.pointer (some ⟨h, 0, none⟩)) := hs.cell m0 2
        by_cases hkn : k < n
        · first
          | exfalso; omega
          | have d1 : decide (1000 + (k : Int) ≤ hi) = true := by simp; omega
            have hsA : Sat W wr (A ++ (cellsA r #[.int .i64 1000, .int .i64 hi, .pointer (some ⟨h, 0, none⟩), .map (some z), .map (some z1)] 62 :: mapA z1 (.int .i64) (fun _ => none) 0 :: mapA z (.int .i64) (fun _ => none) 0 :: F)) := hs.use (by intro x; simp only [cnt_append, cnt_cons, cnt_nil]; omega)
            have HP := Lib.hid (run_put 1000 k)
            go_wp2_with fail
            refine (heap_put h (run 1000 k) _ _ A _ W _ hA hsA (by rw [run_len]; omega) false (run_fresh 1000 k)).mono ?_
            rintro ev w2 ⟨rfl, A2, hA2, hs2⟩
            rw [HP.out] at hA2
            go_wp2_with fail
            refine ⟨⟨k + 1, A2, by simp; omega, by omega, hA2, hs2.use (by intro x; simp only [cnt_append, cnt_cons, cnt_nil]; omega)⟩, ?_⟩
            simp [intOf]
            omega
        · have d1 : decide (1000 + (k : Int) ≤ hi) = false := by simp; omega
          have hkn' : k = n := by omega
          subst hkn'
          go_wp2_with fail
          go_ret
          exact ⟨r, rfl, _, ⟨1000, hi, h, z, z1, _, 0, _, A, rfl, hA, CntOk.nil, HeldOk.nil⟩, hs.use (by intro x; simp only [cnt_append, cnt_cons, cnt_nil, List.length_nil]; omega)⟩
    · have h4 : 1 ≤ last := by omega
      have hn1 : n ≤ (1000 - 1000 + 1 : Int).toNat := Nat.le_of_eq hn
      have hn2 : (1000 - 1000 + 1 : Int).toNat ≤ n := Nat.le_of_eq hn.symm
      clear hn
      go_enter Try.func17, Try.ntmps17
      have hmm := @run_makeMap Try.prog
      go_wp2_with fail
      refine (heap_new W _ F hs).mono ?_; rintro e w1 ⟨h, A1, rfl, hA1, hs1⟩
      have hs2 := newMap_sl (newMap_sl hs1 (.int .i64)) (.int .i64)
      have hz : (w1.alloc (.map #[] 0)).heap.size = w1.heap.size + 1 := by simp
      have hs3 := hs2.newCells #[.int .i64 1000, .int .i64 1000, .pointer (some ⟨h, 0, none⟩), .map (some w1.heap.size), .map (some (w1.heap.size + 1))] 62
      have hz3 : ((w1.alloc (.map #[] 0)).alloc (.map #[] 0)).heap.size = w1.heap.size + 1 + 1 := by simp
      rw [hz3, hz] at hs3
      clear hs2 hz hz3 hs1
      go_wp2_with fail
      clear hmm hs
      generalize w1.heap.size = z at *
      generalize z + 1 = z1 at *
      generalize z1 + 1 = r at *
      go_loopw [6] (fun iv wr => ∃ (k : Nat) (A : List Atom), iv = .int .i64 (1000 + k) ∧ k ≤ n ∧ HeapA h (run 1000 k) A ∧ Sat W wr (cellsA r #[.int .i64 1000, .int .i64 1000, .pointer (some ⟨h, 0, none⟩), .map (some z), .map (some z1)] 62 :: mapA z1 (.int .i64) (fun _ => none) 0 :: mapA z (.int .i64) (fun _ => none) 0 :: (A ++ F))) (fun iv _ => n - (intOf iv - 1000).toNat)
      case atStart => exact ⟨0, A1, by simp, Nat.zero_le _, hA1, hs3⟩
      case round =>
        clear hs3 hA1
        obtain ⟨k, A, rfl, hk, hA, hs⟩ := hrel
        have b0 : (0 : Int) ≤ k := by omega
        have b1 : (k : Int) ≤ 1000 := by omega
        have c1 : wr.cell? ⟨r, 1, none⟩ = some (.int .i64 1000) := hs.cell m0 1
        have c2 : wr.cell? ⟨r, 2, none⟩ = some (.pointer (some ⟨h, 0, none⟩)) := hs.cell m0 2
        by_cases hkn : k < n
        · first
          | exfalso; omega
          | have d1 : decide (1000 + (k : Int) ≤ 1000) = true := by simp; omega
            have hsA : Sat W wr (A ++ (cellsA r #[.int .i64 1000, .int .i64 1000, .pointer (some ⟨h, 0, none⟩), .map (some z), .map (some z1)] 62 :: mapA z1 (.int .i64) (fun _ => none) 0 :: mapA z (.int .i64) (fun _ => none) 0 :: F)) := hs.use (by intro x; simp only [cnt_append, cnt_cons, cnt_nil]; omega)
            have HP := Lib.hid (run_put 1000 k)
            go_wp2_with fail
            refine (heap_put h (run 1000 k) _ _ A _ W _ hA hsA (by rw [run_len]; omega) false (run_fresh 1000 k)).mono ?_
            rintro ev w2 ⟨rfl, A2, hA2, hs2⟩
            rw [HP.out] at hA2
            go_wp2_with fail
            refine ⟨⟨k + 1, A2, by simp; omega, by omega, hA2, hs2.use (by intro x; simp only [cnt_append, cnt_cons, cnt_nil]; omega)⟩, ?_⟩
            simp [intOf]
            omega
        · have d1 : decide (1000 + (k : Int) ≤ 1000) = false := by simp; omega
          have hkn' : k = n := by omega
          subst hkn'
          go_wp2_with fail
          go_ret
          exact ⟨r, rfl, _, ⟨1000, 1000, h, z, z1, _, 0, _, A, rfl, hA, CntOk.nil, HeldOk.nil⟩, hs.use (by intro x; simp only [cnt_append, cnt_cons, cnt_nil, List.length_nil]; omega)⟩
end Go.Proofs.Ytelcaeapflhadaa.Rf
