/-
  Package pick: All.
-/
import Derived.Test.YtelcaeapflhadaaPkK
namespace Go.Proofs.Ytelcaeapflhadaa.Pk
set_option linter.unusedSimpArgs false
open Go Go.RowKit Go.Sl Go.BigFrame
set_option linter.unusedVariables false

section
open Go.Shelf
def sortIt_ren : Go.Shelf.Ren := ⟨fun | 6 => 36 | 15 => 41 | 14 => 40 | 28 => 52 | 29 => 53 | 20 => 44 | 21 => 45 | 22 => 46 | 23 => 47 | 24 => 48 | 25 => 49 | 26 => 50 | 27 => 51 | 46 => 55 | 47 => 56 | 48 => 57 | 49 => 58 | 50 => 59 | 57 => 60 | n => n, fun | 22 => 44 | 24 => 28 | 25 => 66 | 3 => 3 | 39 => 75 | 0 => 0 | 53 => 85 | 55 => 87 | 4 => 4 | 46 => 79 | 45 => 78 | 50 => 36 | 5 => 5 | 9 => 9 | 66 => 88 | 70 => 92 | 76 => 94 | 77 => 95 | n => n, fun | n => n⟩
theorem sortIt : Go.Proofs.SlLaysF0.n6 Try.prog sortIt_ren := {
  mixed := by kernel_rfl
  f6 := ⟨Try.f36.name, by decide, Try.func36.trans (congrArg some (by kernel_rfl))⟩
  f14 := ⟨Try.f40.name, by decide, Try.func40.trans (congrArg some (by kernel_rfl))⟩
  f15 := Try.func41.trans (congrArg some (by kernel_rfl))
  f20 := ⟨Try.f44.name, by decide, Try.func44.trans (congrArg some (by kernel_rfl))⟩
  f21 := ⟨Try.f45.name, by decide, Try.func45.trans (congrArg some (by kernel_rfl))⟩
  f22 := ⟨Try.f46.name, by decide, Try.func46.trans (congrArg some (by kernel_rfl))⟩
  f23 := ⟨Try.f47.name, by decide, Try.func47.trans (congrArg some (by kernel_rfl))⟩
  f24 := ⟨Try.f48.name, by decide, Try.func48.trans (congrArg some (by kernel_rfl))⟩
  f25 := ⟨Try.f49.name, by decide, Try.func49.trans (congrArg some (by kernel_rfl))⟩
  f26 := ⟨Try.f50.name, by decide, Try.func50.trans (congrArg some (by kernel_rfl))⟩
  f27 := ⟨Try.f51.name, by decide, Try.func51.trans (congrArg some (by kernel_rfl))⟩
  f28 := Try.func52.trans (congrArg some (by kernel_rfl))
  f29 := Try.func53.trans (congrArg some (by kernel_rfl))
  f46 := ⟨Try.f55.name, by decide, Try.func55.trans (congrArg some (by kernel_rfl))⟩
  f47 := Try.func56.trans (congrArg some (by kernel_rfl))
  f48 := Try.func57.trans (congrArg some (by kernel_rfl))
  f49 := ⟨Try.f58.name, by decide, Try.func58.trans (congrArg some (by kernel_rfl))⟩
  f50 := ⟨Try.f59.name, by decide, Try.func59.trans (congrArg some (by kernel_rfl))⟩
  f57 := ⟨Try.f60.name, by decide, Try.func60.trans (congrArg some (by kernel_rfl))⟩
  t0 := Try.underlying0
  a0 := Try.isAgg0
  z0 := Try.sizeOf0
  v0 := Try.zeroValue0
  t3 := Try.underlying3
  a3 := Try.isAgg3
  z3 := Try.sizeOf3
  v3 := Try.zeroValue3
  t4 := Try.underlying4
  a4 := Try.isAgg4
  z4 := Try.sizeOf4
  v4 := Try.zeroValue4
  t5 := Try.underlying5
  a5 := Try.isAgg5
  z5 := Try.sizeOf5
  v5 := Try.zeroValue5
  t9 := Try.underlying9
  a9 := Try.isAgg9
  z9 := Try.sizeOf9
  v9 := Try.zeroValue9
  t22 := Try.underlying44
  a22 := Try.isAgg44
  z22 := Try.sizeOf44
  v22 := Try.zeroValue44
  t25 := Try.underlying66
  a25 := Try.isAgg66
  z25 := Try.sizeOf66
  v25 := Try.zeroValue66
  t39 := Try.underlying75
  a39 := Try.isAgg75
  z39 := Try.sizeOf75
  v39 := Try.zeroValue75
  t45 := Try.underlying78
  a45 := Try.isAgg78
  z45 := Try.sizeOf78
  v45 := Try.zeroValue78
  t46 := Try.underlying79
  a46 := Try.isAgg79
  z46 := Try.sizeOf79
  v46 := Try.zeroValue79
  t50 := Try.underlying36
  a50 := Try.isAgg36
  z50 := Try.sizeOf36
  v50 := Try.zeroValue36
  t53 := Try.underlying85
  a53 := Try.isAgg85
  z53 := Try.sizeOf85
  v53 := Try.zeroValue85
  t55 := Try.underlying87
  a55 := Try.isAgg87
  z55 := Try.sizeOf87
  v55 := Try.zeroValue87
  t66 := Try.underlying88
  a66 := Try.isAgg88
  z66 := Try.sizeOf88
  v66 := Try.zeroValue88
  t70 := Try.underlying92
  a70 := Try.isAgg92
  z70 := Try.sizeOf92
  v70 := Try.zeroValue92
  t76 := Try.underlying94
  a76 := Try.isAgg94
  z76 := Try.sizeOf94
  v76 := Try.zeroValue94
  t77 := Try.underlying95
  a77 := Try.isAgg95
  z77 := Try.sizeOf95
  v77 := Try.zeroValue95 }

end

theorem ordI_lt (p q : It) : Go.Proofs.ltOf ordI p q = ltI p q := rfl
theorem ltI_swo : Go.Sort.SWO (Go.Proofs.ltOf ordI) where
  irrefl x := by rw [ordI_lt, ltI_false]; exact le_refl x
  trans x y z h1 h2 := by
    rw [ordI_lt, ltI_iff] at *
    exact lt_trans h1 h2
  ntrans x y z h1 h2 := by
    rw [ordI_lt, ltI_false] at *
    exact le_trans h2 h1

theorem cmpLays_any (blk off size : Nat) (w : World) : Go.Proofs.CmpLays Try.prog 37 #[] encI 2 ordI blk off size w :=
  fun _ _ _ _ x y => order_lay x y _

/-- slices.SortFunc(.., order). -/
theorem sort_any (W w : World) (F : List Atom) (v : Value) (l : List It) (R : List Atom) (hr : RowA 28 2 v l.length (flat l) R) (hs : Sat W w (R ++ F)) (hb : l.length < 1000000) :
    Calls Try.prog 36 #[v, .func (.func 37) #[] #[]] w fun e w' => e = .returned (.tuple #[]) ∧ ∃ l' R', l'.Perm l ∧ l'.Pairwise le ∧ RowA 28 2 v l'.length (flat l') R' ∧ Sat W w' (R' ++ F) := by
  rcases hr.2 with ⟨rfl, hn, rfl⟩ | ⟨g, off, cap, rfl, hnc, hcm, rfl⟩
  · have h := Go.Proofs.AnyF.slices_SortFunc_none sortIt none 0 (.func (.func 37) #[] #[]) w
    refine h.mono ?_
    rintro e w' ⟨rfl, rfl⟩
    refine ⟨rfl, l, [], List.Perm.refl _, ?_, hr, hs⟩
    rw [List.eq_nil_of_length_eq_zero hn]
    exact .nil
  · have hs2 : Sat W w ((g, rowP 28 off (cap * 2) (flat l)) :: F) := hs
    have eg : ∀ args w, (callFunc 37 args).run Try.prog w = .ok (.enter 37 args) w := enters_of Try.func37 (by kernel_rfl) rfl
    have h := Go.Proofs.AnyQ.slices_SortFunc sortIt 2 Try.isAgg28 Try.sizeOf28 encI (fun _ => rfl) (fun x v hv => by simp [encI] at hv; rcases hv with rfl | rfl <;> rfl) ordI ltI_swo 37 #[] g off cap l.toArray w eg (cmpLays_any g off l.toArray.size w) (holds_items hs2) (hs2.lt m0) (by simp; omega)
    refine h.mono ?_
    rintro e w' ⟨rfl, d, n, os, hp, hsd, rfl⟩
    obtain ⟨hd, _, hperm⟩ := hp
    have hd' : d.size = l.length := by simpa using hd
    refine ⟨rfl, d.toList, [(g, rowP 28 off (cap * 2) (flat d.toList))], ?_, ?_, ⟨by rw [flat_length], .inr ⟨g, off, cap, by simp [hd'], by simpa [hd'] using hnc, hcm, rfl⟩⟩, sat_sorted hs2 d hd' n os⟩
    · have e1 : d.extract 0 l.toArray.size = d := by rw [← hd]; simp
      have e2 : l.toArray.extract 0 l.toArray.size = l.toArray := by simp
      rw [e1, e2] at hperm
      simpa using hperm
    · rw [List.pairwise_iff_getElem]
      intro i j hi hj hij
      have := hsd i j (Nat.zero_le _) hij (by simpa [hd'] using hj)
      rw [ordI_lt, ltI_false, getElem!_pos d i (by simpa using hi), getElem!_pos d j (by simpa using hj)] at this
      simpa using this

theorem sorted_eq {l S : List It} (h : l.Perm S) (hl : l.Pairwise le) (hS : Srt S) : l = S := by
  refine srt_eq ?_ hS h
  have hn : l.Nodup := h.nodup_iff.2 (srt_nodup hS)
  exact (List.pairwise_and_iff.2 ⟨hl, hn⟩).imp fun ⟨a, b⟩ => lt_of_le_ne a b

theorem heap_all (h : Nat) (S : List It) (A F : List Atom) (W w : World) (hA : HeapA h S A) (hs : Sat W w (A ++ F)) (hb : S.length < 900000) :
    Calls Try.prog 27 #[.pointer (some ⟨h, 0, none⟩)] w fun e w' => ∃ v R, e = .returned v ∧ RowA 28 2 v S.length (flat S) R ∧ Sat W w' (R ++ (A ++ F)) := by
  obtain ⟨x, l, A0, rfl, ⟨v, m, f, R, hr, hf, rfl⟩, hp, hh, hS⟩ := hA
  have c0 : w.cell? ⟨h, 0, none⟩ = some (.pointer (some ⟨x, 0, none⟩)) := hs.cell m0 0
  have c1 : w.cell? ⟨x, 0, none⟩ = some v := hs.cell m1 0
  have hlen := hp.length_eq
  have hs1 : Sat W w (R ++ (cellsA h #[.pointer (some ⟨x, 0, none⟩)] 57 :: cellsA x #[v, .map (some m)] 55 :: mapA m (.int .i64) f l.length :: F)) := hs.use (by intro x; simp only [cnt_append, cnt_cons, cnt_nil]; omega)
  go_enter Try.func27, Try.ntmps27
  go_wp2_with fail
  refine (clone_any W _ _ v l R hr hs1 (by omega)).mono ?_; rintro e w1 ⟨v1, R1, rfl, hr1, hs2⟩
  go_wp2_with fail
  refine (sort_any W _ _ v1 l R1 hr1 hs2 (by omega)).mono ?_; rintro e w2 ⟨rfl, l2, R2, hp2, hl2, hr2, hs3⟩
  obtain rfl := sorted_eq (hp2.trans hp) hl2 hS
  go_wp2_with fail
  go_ret
  exact ⟨_, _, rfl, hr2, hs3.use (by intro x; simp only [cnt_append, cnt_cons, cnt_nil]; omega)⟩
end Go.Proofs.Ytelcaeapflhadaa.Pk
