
/-
  The cache's functions over a cache in memory: Extents.
-/
import Derived.Test.YtekbbpfnkbanjaaKcG
import Derived.Shelf.SlIterI.Nil
import Derived.Shelf.SortM.Plain
import Derived.Shelf.SortM.SortNone
namespace Go.Proofs.Ytekbbpfnkbanjaa.Ch
open Go Go.RowKit Go.Sl Go.BigFrame
set_option linter.unusedVariables false
set_option linter.unusedSimpArgs false

section
open Go.Shelf
def keysA_ren : Go.Shelf.Ren := ⟨fun | 7 => 18 | 10 => 22 | n => n, fun | 23 => 27 | 26 => 3 | 3 => 4 | 28 => 47 | 0 => 0 | 27 => 46 | 33 => 53 | 4 => 4 | n => n, fun | n => n⟩
theorem keysA : Go.Proofs.SlLaysZI.n7 Try.prog keysA_ren := {
  mixed := by kernel_rfl
  f7 := ⟨Try.f18.name, by decide, Try.func18.trans (congrArg some (by kernel_rfl))⟩
  f10 := ⟨Try.f22.name, by decide, Try.func22.trans (congrArg some (by kernel_rfl))⟩
  t0 := Try.underlying0
  a0 := Try.isAgg0
  z0 := Try.sizeOf0
  v0 := Try.zeroValue0
  t4 := Try.underlying4
  a4 := Try.isAgg4
  z4 := Try.sizeOf4
  v4 := Try.zeroValue4
  t23 := Try.underlying27
  a23 := Try.isAgg27
  z23 := Try.sizeOf27
  v23 := Try.zeroValue27
  t26 := Try.underlying3
  a26 := Try.isAgg3
  z26 := Try.sizeOf3
  v26 := Try.zeroValue3
  t27 := Try.underlying46
  a27 := Try.isAgg46
  z27 := Try.sizeOf46
  v27 := Try.zeroValue46
  t28 := Try.underlying47
  a28 := Try.isAgg47
  z28 := Try.sizeOf47
  v28 := Try.zeroValue47
  t33 := Try.underlying53
  a33 := Try.isAgg53
  z33 := Try.sizeOf53
  v33 := Try.zeroValue53 }

def sortedA_ren : Go.Shelf.Ren := ⟨fun | 6 => 17 | 8 => 20 | 9 => 21 | 11 => 23 | 13 => 25 | 12 => 24 | 23 => 35 | 24 => 36 | 14 => 26 | 15 => 27 | 16 => 28 | 17 => 29 | 18 => 30 | 19 => 31 | 20 => 32 | 21 => 33 | 22 => 34 | 25 => 37 | 26 => 38 | 27 => 39 | 28 => 40 | 29 => 41 | 30 => 42 | 31 => 43 | n => n, fun | 26 => 3 | 28 => 47 | 24 => 22 | 0 => 0 | 3 => 3 | 37 => 51 | 48 => 67 | 50 => 50 | 4 => 4 | 40 => 59 | 39 => 58 | 45 => 64 | 5 => 5 | 9 => 9 | 51 => 69 | 55 => 73 | 57 => 75 | 58 => 76 | 33 => 53 | n => n, fun | n => n⟩
theorem sortedA : Go.Proofs.SlLaysZI.n6 Try.prog sortedA_ren := {
  mixed := by kernel_rfl
  f6 := ⟨Try.f17.name, by decide, Try.func17.trans (congrArg some (by kernel_rfl))⟩
  f8 := ⟨Try.f20.name, by decide, Try.func20.trans (congrArg some (by kernel_rfl))⟩
  f11 := ⟨Try.f23.name, by decide, Try.func23.trans (congrArg some (by kernel_rfl))⟩
  t0 := Try.underlying0
  a0 := Try.isAgg0
  z0 := Try.sizeOf0
  v0 := Try.zeroValue0
  t24 := Try.underlying22
  a24 := Try.isAgg22
  z24 := Try.sizeOf22
  v24 := Try.zeroValue22
  t26 := Try.underlying3
  a26 := Try.isAgg3
  z26 := Try.sizeOf3
  v26 := Try.zeroValue3
  t28 := Try.underlying47
  a28 := Try.isAgg47
  z28 := Try.sizeOf47
  v28 := Try.zeroValue47
  i26 := by kernel_rfl }

def sortA_ren : Go.Shelf.Ren := ⟨fun | 5 => 21 | 8 => 25 | 7 => 24 | 19 => 35 | 20 => 36 | 10 => 26 | 11 => 27 | 12 => 28 | 13 => 29 | 14 => 30 | 15 => 31 | 16 => 32 | 17 => 33 | 18 => 34 | 30 => 37 | 31 => 38 | 32 => 39 | 33 => 40 | 34 => 41 | 35 => 42 | 40 => 43 | n => n, fun | 23 => 22 | 25 => 3 | 3 => 3 | 32 => 51 | 22 => 22 | 0 => 0 | 44 => 67 | 46 => 50 | 4 => 4 | 36 => 59 | 35 => 58 | 41 => 64 | 5 => 5 | 9 => 9 | 53 => 69 | 57 => 73 | 63 => 75 | 64 => 76 | n => n, fun | n => n⟩
theorem sortA : Go.Proofs.SlLaysM.n5 Try.prog sortA_ren := {
  mixed := by kernel_rfl
  f5 := ⟨Try.f21.name, by decide, Try.func21.trans (congrArg some (by kernel_rfl))⟩
  f7 := ⟨Try.f24.name, by decide, Try.func24.trans (congrArg some (by kernel_rfl))⟩
  f8 := Try.func25.trans (congrArg some (by kernel_rfl))
  f10 := ⟨Try.f26.name, by decide, Try.func26.trans (congrArg some (by kernel_rfl))⟩
  f11 := ⟨Try.f27.name, by decide, Try.func27.trans (congrArg some (by kernel_rfl))⟩
  f12 := ⟨Try.f28.name, by decide, Try.func28.trans (congrArg some (by kernel_rfl))⟩
  f13 := ⟨Try.f29.name, by decide, Try.func29.trans (congrArg some (by kernel_rfl))⟩
  f14 := ⟨Try.f30.name, by decide, Try.func30.trans (congrArg some (by kernel_rfl))⟩
  f15 := ⟨Try.f31.name, by decide, Try.func31.trans (congrArg some (by kernel_rfl))⟩
  f16 := ⟨Try.f32.name, by decide, Try.func32.trans (congrArg some (by kernel_rfl))⟩
  f17 := ⟨Try.f33.name, by decide, Try.func33.trans (congrArg some (by kernel_rfl))⟩
  f18 := ⟨Try.f34.name, by decide, Try.func34.trans (congrArg some (by kernel_rfl))⟩
  f19 := Try.func35.trans (congrArg some (by kernel_rfl))
  f20 := Try.func36.trans (congrArg some (by kernel_rfl))
  f30 := ⟨Try.f37.name, by decide, Try.func37.trans (congrArg some (by kernel_rfl))⟩
  f31 := Try.func38.trans (congrArg some (by kernel_rfl))
  f32 := Try.func39.trans (congrArg some (by kernel_rfl))
  f33 := ⟨Try.f40.name, by decide, Try.func40.trans (congrArg some (by kernel_rfl))⟩
  f34 := ⟨Try.f41.name, by decide, Try.func41.trans (congrArg some (by kernel_rfl))⟩
  f35 := ⟨Try.f42.name, by decide, Try.func42.trans (congrArg some (by kernel_rfl))⟩
  f40 := ⟨Try.f43.name, by decide, Try.func43.trans (congrArg some (by kernel_rfl))⟩
  t0 := Try.underlying0
  a0 := Try.isAgg0
  z0 := Try.sizeOf0
  v0 := Try.zeroValue0
  t3 := Try.underlying3
  a3 := Try.isAgg3
  z3 := Try.sizeOf3
  v3 := Try.zeroValue3
  t4 := Try.underlying4
  a4 := Try.isAgg4
  z4 := Try.sizeOf4
  v4 := Try.zeroValue4
  t5 := Try.underlying5
  a5 := Try.isAgg5
  z5 := Try.sizeOf5
  v5 := Try.zeroValue5
  t9 := Try.underlying9
  a9 := Try.isAgg9
  z9 := Try.sizeOf9
  v9 := Try.zeroValue9
  t22 := Try.underlying22
  a22 := Try.isAgg22
  z22 := Try.sizeOf22
  v22 := Try.zeroValue22
  t23 := Try.underlying22
  a23 := Try.isAgg22
  z23 := Try.sizeOf22
  v23 := Try.zeroValue22
  t25 := Try.underlying3
  a25 := Try.isAgg3
  z25 := Try.sizeOf3
  v25 := Try.zeroValue3
  t32 := Try.underlying51
  a32 := Try.isAgg51
  z32 := Try.sizeOf51
  v32 := Try.zeroValue51
  t35 := Try.underlying58
  a35 := Try.isAgg58
  z35 := Try.sizeOf58
  v35 := Try.zeroValue58
  t36 := Try.underlying59
  a36 := Try.isAgg59
  z36 := Try.sizeOf59
  v36 := Try.zeroValue59
  t41 := Try.underlying64
  a41 := Try.isAgg64
  z41 := Try.sizeOf64
  v41 := Try.zeroValue64
  t44 := Try.underlying67
  a44 := Try.isAgg67
  z44 := Try.sizeOf67
  v44 := Try.zeroValue67
  t46 := Try.underlying50
  a46 := Try.isAgg50
  z46 := Try.sizeOf50
  v46 := Try.zeroValue50
  t53 := Try.underlying69
  a53 := Try.isAgg69
  z53 := Try.sizeOf69
  v53 := Try.zeroValue69
  t57 := Try.underlying73
  a57 := Try.isAgg73
  z57 := Try.sizeOf73
  v57 := Try.zeroValue73
  t63 := Try.underlying75
  a63 := Try.isAgg75
  z63 := Try.sizeOf75
  v63 := Try.zeroValue75
  t64 := Try.underlying76
  a64 := Try.isAgg76
  z64 := Try.sizeOf76
  v64 := Try.zeroValue76 }

end

section
open Go.Maps Go.Sort Go.Shelf
theorem sortsA (m : Nat) : AnyZI.SortsIn Try.prog sortedA_ren Fence.wide m :=
  ⟨fun blk off cap ss W hH hblk hsz => callsIn_wide.2 (AnyM.slices_Sort_int sortA blk off cap ss W hH hblk hsz),
   fun p cap W => callsIn_wide.2 (AnyM.slices_Sort_int_none sortA p cap W)⟩

/-- A set of numbers, as the kit reads maps. -/
theorem owns_of {W w : World} {L : List Atom} {b n : Nat} {E : List Int} (hs : Sat W w L) (hm : mapA b (.int .i64) (inF E) n ∈ L) (hE : ∀ x ∈ E, (Lit.int .i64 x).wf = true) (hn : n ≤ maxLen) :
    ∃ D0 : DataW Unit, w.ownsMap Try.prog 3 (fun _ => some (.nil, [])) b n D0 ∧ (intKeys D0).Perm (dd E) ∧ Maps.size D0 = n := by
  obtain ⟨o, ho, es, clock, rfl, h⟩ := hs.get hm
  have hr := rng_start (vf := fun _ => Value.bool true) h (dd E) (dd_keys E) (inF_iff E)
  unfold RngL at hr
  rw [show (leftOf es #[]).toList = es.toList by simp [leftOf]] at hr
  have hkeys : ∀ e ∈ es.toList, ∃ a ∈ E, e.key = .int .i64 a := fun e he => by
    have := hr.subset (List.mem_map.2 ⟨e, he, rfl⟩)
    obtain ⟨a, ha, hp⟩ := List.mem_map.1 this
    exact ⟨a, mem_dd.1 ha, (congrArg Prod.fst hp).symm⟩
  have hrd : ∀ e ∈ es.toList, Go.WideElems.rd Try.prog 3 (fun _ => some ((.nil : DataW Unit), [])) e = some ((match e.key with | .int _ a => Lit.int .i64 a | _ => .bool false), .nil) := fun e he => by
    obtain ⟨a, ha, hk⟩ := hkeys e he
    simp only [Go.WideElems.rd, hk]
    rw [keyOf_int_mk Try.underlying3 (hE a ha)]
    rfl
  refine ⟨_, ⟨es, clock, ho, ⟨by rw [h.size]; exact hn, ?_, fun e he => ⟨_, hrd e he⟩⟩, by rw [h.size]; exact Nat.le_refl _, rfl⟩, ?_, ?_⟩
  · exact ⟨h.young, h.stamps, h.apart⟩
  · show (List.map _ _).Perm _
    refine ((Go.WideShapes.sorted_perm _).map _).trans ?_
    have e1 : ((es.toList.map (Go.WideElems.rg Try.prog 3 (fun _ => some ((.nil : DataW Unit), [])))).map fun p => Go.intOf p.1) = es.toList.map fun e => (match e.key with | .int _ a => a | _ => 0) := by
      rw [List.map_map]
      apply List.map_congr_left
      intro e he
      obtain ⟨a, ha, hk⟩ := hkeys e he
      simp only [Function.comp_apply, Go.WideElems.rg, hrd e he, hk, Option.getD_some, Go.intOf]
    rw [e1]
    have h2 := hr.map fun p => (match p.1 with | .int _ a => a | _ => (0 : Int))
    simp only [List.map_map] at h2
    have e3 : List.map ((fun p : Value × Value => (match p.1 with | .int _ a => a | _ => (0 : Int))) ∘ fun a => (Value.int IntKind.i64 a, Value.bool true)) (dd E) = dd E := by
      rw [show ((fun p : Value × Value => (match p.1 with | .int _ a => a | _ => (0 : Int))) ∘ fun a => (Value.int IntKind.i64 a, Value.bool true)) = id from rfl, List.map_id]
    rw [e3] at h2
    exact h2
  · show List.length _ = n
    rw [(Go.WideShapes.sorted_perm _).length_eq, List.length_map, Array.length_toList, h.size]

/-- A row that the kit owns, behind a world that is only grown. -/
theorem sat_row {W w w' : World} {L : List Atom} {v : Value} {n : Nat} {xs : List Value} {e : TypeId} (hs : Sat W w L) (hb : Below w.heap.size w w') (hr : w'.ownsRow w.heap.size e 1 v n xs) : ∃ R, RowA e 1 v n xs R ∧ Sat W w' (R ++ L) := by
  obtain ⟨hl, ⟨rfl, rfl⟩ | ⟨g, cap, cur, rfl, hg, ho, hnc, hcm, hcs, hx⟩⟩ := hr
  · exact ⟨[], ⟨hl, .inl ⟨rfl, rfl, rfl⟩⟩, hs.below hb⟩
  · refine ⟨[(g, rowP e 0 (cap * 1) xs)], ⟨hl, .inr ⟨g, 0, cap, rfl, hnc, hcm, rfl⟩⟩, ?_⟩
    refine hs.moved (Inert.below hb) hg (fun k hk _ => hb.block k hk) ⟨_, ho, cur, rfl, by rw [hcs]; omega, by rw [hl]; exact Nat.mul_le_mul_right _ hnc, ?_⟩
    rw [List.drop_zero, hl]
    exact hx

theorem mem_merge {l : List Int} {k : Int} : k ∈ l.mergeSort (fun x y => decide (x ≤ y)) ↔ k ∈ l := (List.mergeSort_perm l _).mem_iff
theorem merge_sorted (l : List Int) : (l.mergeSort (fun x y => decide (x ≤ y))).Pairwise (· ≤ ·) := by
  have := List.pairwise_mergeSort (le := fun x y : Int => decide (x ≤ y)) (fun a b c h1 h2 => by simp only [decide_eq_true_eq] at *; omega) (fun a b => by simp only [Bool.or_eq_true, decide_eq_true_eq]; omega) l
  exact this.imp fun h => by simpa using h
theorem sorted_nodup : ∀ {l : List Int}, l.Pairwise (· ≤ ·) → l.Nodup → l.Pairwise (· < ·)
  | [], _, _ => .nil
  | a :: l, h1, h2 => by
    rw [List.pairwise_cons] at h1 ⊢
    rw [List.nodup_cons] at h2
    exact ⟨fun b hb => by have := h1.1 b hb; have : a ≠ b := fun e => h2.1 (e ▸ hb); omega, sorted_nodup h1.2 h2.2⟩

set_option maxHeartbeats 2000000 in
theorem cache_extents (bc : Nat) (m : Mo) (A : List Atom) (s : ByteArray) (W w : World) (L : List Atom) (hA : CaA bc m A) (hs : Sat W w (A ++ L)) (hb : m.count < 900000) :
    Calls Try.prog 9 #[.pointer (some ⟨bc, 0, none⟩), .string s] w fun e w' => ∃ (v : Value) (ss : List Int) (R : List Atom), e = .returned v ∧ ss.Pairwise (· < ·) ∧ (∀ k, k ∈ ss ↔ k ∈ extN (m.keys s)) ∧ ss.length = (dd (extN (m.keys s))).length ∧ RowA 3 1 v ss.length (ss.map (Value.int .i64)) R ∧ Sat W w' (R ++ (A ++ L)) := by
  obtain ⟨bm, X, hAX, hok, hmX⟩ := hA
  have HAX := Lib.hid hAX
  rw [hAX] at hs
  have c0 : w.cell? ⟨bc, 0, none⟩ = some (.map (some bm)) := hs.cell m0 0
  have hlk := lookup_sl (P := Try.prog) (t := 40) (key := .string s) (z := .map none) hs (b := bm) (d := .string) (f := nmF X) (n := X.length) m1 Try.underlying40 Try.underlying9 trivial (Try.zeroValue35 _) false
  obtain ⟨E, hE⟩ : ∃ E, E = extN (m.keys s) := ⟨_, rfl⟩
  rw [← hE]
  have hEb : E.length < 900000 ∧ ∀ x ∈ E, 0 ≤ x ∧ x < 1000000 := by
    rw [hE, Mo.keys, hmX, get_abs]
    cases hg : getK Nm.s s X with
    | none => exact ⟨by simp [extN], by simp [extN]⟩
    | some a =>
      obtain ⟨haX, rfl⟩ := getK_some hg
      simp only [Option.map_some, Option.getD_some, abs_keys]
      have hnm := hok.nms a haX
      refine ⟨?_, fun x hx => ?_⟩
      · rw [hmX, count_abs] at hb
        have := sum_le_of_mem (fun n : Nm => n.l.length) haX
        simp only [extN, List.length_map]
        omega
      · simp only [extN, List.map_map] at hx
        obtain ⟨t, ht, rfl⟩ := List.mem_map.1 hx
        have h1 := (hnm.secs t ht).lo
        have h2 := (hnm.secs t ht).hi
        simp only [Function.comp_apply]
        omega
  have hx : Calls Try.prog 19 #[(nmF X (.string s)).getD (.map none)] w fun e w' => ∃ b2 k2, e = .returned (.map (some b2)) ∧ Sat W w' (mapA b2 (.int .i64) (inF E) k2 :: (A ++ L)) := by
    cases hg : getK Nm.s s X with
    | none =>
      rw [nm_none hg]
      refine (extents_nil W w _ hs).mono ?_; rintro e w' ⟨b, rfl, hs2⟩
      refine ⟨b, 0, rfl, ?_⟩
      have : E = [] := by rw [hE, Mo.keys, hmX, get_abs, hg]; rfl
      rw [this, hAX]
      exact hs2
    | some a =>
      rw [nm_some hg]
      obtain ⟨haX, rfl⟩ := getK_some hg
      have hnm := hok.nms a haX
      have hs5 := hok.split haX (hs.use (M := nmsAt X ++ (cellsA bc #[.map (some bm)] 42 :: mapA bm .string (nmF X) X.length :: L)) (by intro x; simp only [cnt_append, cnt_cons, cnt_nil]; omega))
      refine (extents_any a.l a.b W w _ hnm.apart (fun s hs => ⟨(hnm.secs s hs).lo, (hnm.secs s hs).hi⟩) hs5).mono ?_; rintro e w' ⟨b, rfl, hs2⟩
      refine ⟨b, (dd (extN (a.l.map Sec.k))).length, rfl, ?_⟩
      have he : E = extN (a.l.map Sec.k) := by
        rw [hE, Mo.keys, hmX, get_abs, hg]
        simp only [Option.map_some, Option.getD_some, abs_keys]
      rw [he, hAX]
      have hs2' : Sat W w' (mapA a.b (.int .i64) (secF a.l) a.l.length :: (secAt a.l ++ (nmsAt (outK Nm.s a.s X) ++ (mapA b (.int .i64) (inF (extN (a.l.map Sec.k))) (dd (extN (a.l.map Sec.k))).length :: (cellsA bc #[.map (some bm)] 42 :: mapA bm .string (nmF X) X.length :: L))))) := hs2.use (by intro x; simp only [cnt_append, cnt_cons, cnt_nil]; omega)
      have hs3 := hok.join haX hs2'
      exact hs3.use (by intro x; simp only [cnt_append, cnt_cons, cnt_nil]; omega)
  obtain ⟨mv, hmv⟩ : ∃ mv, mv = (nmF X (.string s)).getD (.map none) := ⟨_, rfl⟩
  rw [← hmv] at hlk hx
  simp only [Bool.false_eq_true, if_false] at hlk
  clear hmv hs hok hmX hAX hE
  have HEB := Lib.hid hEb
  clear hEb
  refine (callsIn_wide (n := 6)).1 ?_
  have cX := (callsIn_wide (n := 5)).2 hx
  clear hx
  have cK : ∀ mb W, CallsIn Fence.wide 5 Try.prog 18 #[.map mb] W fun e w' => e = .returned (.func (.func 22) #[] #[.pointer (some ⟨W.heap.size, 0, none⟩)]) ∧ w' = W.alloc (.cells #[.map mb] 27) := fun mb W => AnyZI.keys_in keysA Fence.wide 5 trivial rfl mb W
  have cS : ∀ (b2 k2 : Nat) (w : World), Sat W w (mapA b2 (.int .i64) (inF E) k2 :: (A ++ L)) → CallsIn Fence.wide 5 Try.prog 17 #[.func (.func 22) #[] #[.pointer (some ⟨w.heap.size, 0, none⟩)]] (w.alloc (.cells #[.map (some b2)] 27)) fun e w' => ∃ (v : Value) (ss : List Int) (R : List Atom), e = .returned v ∧ ss.Pairwise (· < ·) ∧ (∀ k, k ∈ ss ↔ k ∈ E) ∧ ss.length = (dd E).length ∧ RowA 3 1 v ss.length (ss.map (Value.int .i64)) R ∧ Sat W w' (R ++ (A ++ L)) := by
    intro b2 k2 w hs
    have hk := sat_inF hs
    have hdl := dd_len_le E
    have hel := HEB.out.1
    obtain ⟨D0, hown, hperm, hsz⟩ := owns_of hs m0 (fun x hx => by have := HEB.out.2 x hx; simp [Lit.wf, IntKind.min, IntKind.max, IntKind.signed, IntKind.bits]; omega) (show k2 ≤ maxLen by unfold maxLen; omega)
    have hbl := hown.lt
    have hown2 : (w.alloc (.cells #[.map (some b2)] 27)).ownsMap Try.prog 3 (fun _ => some ((.nil : DataW Unit), [])) b2 k2 D0 := hown.alloc _
    have hseq : SeqGives Fence.wide 2 Try.prog 22 #[.pointer (some ⟨w.heap.size, 0, none⟩)] encZ (fun ss => ss.Perm (intKeys D0)) (Maps.size D0) (w.alloc (.cells #[.map (some b2)] 27)) :=
      AnyZI.keys_gives (ρ := keysA_ren) { keysA with } Fence.wide _ trivial rfl (by omega) w.heap.size b2 k2 D0 _ (by simp) (by simp) hown2
    have cS := AnyZI.sorted_in sortedA Fence.wide 5 trivial trivial trivial trivial rfl (by omega) (sortsA _) (enters_of Try.func21 (by kernel_rfl) rfl) 22 #[.pointer (some ⟨w.heap.size, 0, none⟩)] trivial (enters_of Try.func22 (by kernel_rfl) rfl) _ _ (by rw [hsz]; unfold maxLen; omega) (by rw [hsz]; omega) _ hseq
    refine CallsIn.mono cS ?_
    rintro e w' ⟨v, ss, rfl, hS, hrow, hnil, hB⟩
    have hp := hS.trans hperm
    have hs2 := (hs.tail.alloc (.cells #[.map (some b2)] 27))
    have hl : ss.length = (ss.mergeSort fun x y => decide (x ≤ y)).length := by rw [List.length_mergeSort]
    rw [hl] at hrow
    obtain ⟨R, hR, hs3⟩ := sat_row hs2 hB hrow
    refine ⟨v, _, R, rfl, sorted_nodup (merge_sorted ss) ((List.mergeSort_perm ss _).nodup_iff.2 (hp.nodup_iff.2 (dd_nodup E))), fun k => by rw [mem_merge, hp.mem_iff, mem_dd], ?_, hR, hs3⟩
    rw [List.length_mergeSort, hp.length_eq]
  have hfK : Fence.wide.fn 18 := trivial
  have hfS : Fence.wide.fn 17 := trivial
  have hfX : Fence.wide.fn 19 := trivial
  refine callsIn_of_wp Try.func9 rfl trivial ?_ rfl
  simp only [Try.ntmps9, List.size_toArray, List.length_cons, List.length_nil, Nat.reduceAdd, Nat.reduceSub, Array.replicate_succ, Array.replicate_zero, List.push_toArray, List.append_toArray, List.nil_append, List.cons_append]
  have HCS := Lib.hid cS
  clear cS
  gi_wp2_with (first
    | (gi_at_call 19; refine cX.mono ?_; rintro e w2 ⟨b2, k2, rfl, hs2⟩)
    | (gi_at_call 18; refine (cK _ _).mono ?_; rintro e w3 ⟨rfl, rfl⟩)
    | (gi_at_call 17; refine (HCS.out _ _ _ hs2).mono ?_; rintro e w' ⟨v, ss, R, rfl, h1, h2, h3, h4, h5⟩))
  go_ret
  exact ⟨_, _, _, rfl, h1, h2, h3, h4, h5⟩
end
end Go.Proofs.Ytekbbpfnkbanjaa.Ch
