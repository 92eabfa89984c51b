/-
  Chapter 1's laws: grow, a round that lays another's error.
-/
import Derived.Test.YtoknokbbggnmjaaDoorCaV0
import Derived.Deep.CutBlock
import Derived.Deep.DeepCutAuto
namespace Go.Proofs.YtoknokbbggnmjaaDoor.Ca
set_option linter.unusedSimpArgs false
open Go Go.RowKit Go.Sl Go.Extern.Stop Go.Stop Go.Extern
set_option linter.unusedVariables false

set_option maxRecDepth 100000 in
set_option maxHeartbeats 40000000 in
theorem grow_other {W : World} {F L0 : List Atom} {z cl i : Nat} {gl : Option Addr} {ls : List (Int × Int)} {lf : Nat → Int × Int} {ev sv : Value} {wr : World} {P : List PT} {Re Rs T : List Atom} {u1 u7 u8 u9 u10 u11 u12 u13 u14 u15 u16 u17 u18 u19 u20 u21 u22 u23 u24 u25 u26 u27 u28 u29 u30 u31 u32 u33 u34 u35 u36 u37 u38 u39 u40 u41 u42 u43 u44 u45 u46 u47 u48 u49 u50 u51 u52 u53 u54 u55 u56 u57 u58 u59 u60 u61 u62 u63 u64 u65 u66 u67 u68 u69 u70 u71 u72 u73 u74 u75 u76 u77 u78 u79 u80 u81 u82 u83 u84 u85 u86 u87 u88 u89 u90 u91 u92 u93 u94 u95 u96 u97 u98 u99 u100 u101 u102 u103 u104 u105 u106 u107 u108 u109 u110 u111 u112 u113 u114 u115 u116 u117 u118 u119 u120 u121 u122 u123 u124 u125 u126 u127 u128 u129 u130 u131 u132 u133 u134 u135 u136 u137 u138 u139 u140 u141 u142 u143 u144 u145 u146 u147 u148 u149 u150 u151 u152 u153 u154 u155 u156 u157 u158 u159 u160 u161 u162 u163 u164 u165 u166 u167 u168 u169 u170 u171 u172 u173 u174 u175 u176 u177 u178 u179 u180 u181 u182 u183 u184 u185 u186 u187 u188 u189 u190 u191 u192 u193 u194 u195 u196 u197 u198 u199 u200 u201 u202 u203 u204 u205 u206 u207 u208 u209 u210 u211 u212 u213 u214 u215 u216 u217 u218 u219 u220 u221 u222 u223 u224 u225 u226 u227 u228 u229 u230 u231 u232 u233 u234 u235 u236 u237 : Value} {K1 : Act → World → Prop} {Q0 : Exit → Act → World → Prop}
    (hll : ls.length ≤ maxLen) (hl1 : ∀ w, Below W.heap.size W w → ∀ j, j < ls.length → ∃ b o, gl = some ⟨b, o, none⟩ ∧ w.cell? ⟨b, o + j * 2, none⟩ = some (.int .i64 (lf j).1) ∧ w.cell? ⟨b, o + j * 2 + 1, none⟩ = some (.int .i64 (lf j).2))
    (HF : Hid (F = cellsA z zeroSaid 43 :: (L0 ++ allOf W))) (hi1 : i < ls.length) (hi2 : i < 25) (hg : GrowAt W F ls.length i ev sv wr P Re Rs T)
    (hend : ∀ (a' : Act) (w' : World) (ev' sv' : Value) (P' : List PT) (Re' Rs' T' : List Atom), FrameOk (.slice gl ls.length cl) z a' ev' sv' (i + 1) → GrowAt W F ls.length (i + 1) ev' sv' w' P' Re' Rs' T' → K1 a' w')
    (hk : handPick (lf i).1 7 = 3) (hP : P ≠ []) :
    Code.wp Tryd.prog growBody (Exit.then K1 Q0) ⟨#[.slice gl ls.length cl, u1, .nilIface, .pointer (some ⟨z, 0, none⟩), ev, sv, .int .i64 i, u7, u8, u9, u10, u11, u12, u13, u14, u15, u16, u17, u18, u19, u20, u21, u22, u23, u24, u25, u26, u27, u28, u29, u30, u31, u32, u33, u34, u35, u36, u37, u38, u39, u40, u41, u42, u43, u44, u45, u46, u47, u48, u49, u50, u51, u52, u53, u54, u55, u56, u57, u58, u59, u60, u61, u62, u63, u64, u65, u66, u67, u68, u69, u70, u71, u72, u73, u74, u75, u76, u77, u78, u79, u80, u81, u82, u83, u84, u85, u86, u87, u88, u89, u90, u91, u92, u93, u94, u95, u96, u97, u98, u99, u100, u101, u102, u103, u104, u105, u106, u107, u108, u109, u110, u111, u112, u113, u114, u115, u116, u117, u118, u119, u120, u121, u122, u123, u124, u125, u126, u127, u128, u129, u130, u131, u132, u133, u134, u135, u136, u137, u138, u139, u140, u141, u142, u143, u144, u145, u146, u147, u148, u149, u150, u151, u152, u153, u154, u155, u156, u157, u158, u159, u160, u161, u162, u163, u164, u165, u166, u167, u168, u169, u170, u171, u172, u173, u174, u175, u176, u177, u178, u179, u180, u181, u182, u183, u184, u185, u186, u187, u188, u189, u190, u191, u192, u193, u194, u195, u196, u197, u198, u199, u200, u201, u202, u203, u204, u205, u206, u207, u208, u209, u210, u211, u212, u213, u214, u215, u216, u217, u218, u219, u220, u221, u222, u223, u224, u225, u226, u227, u228, u229, u230, u231, u232, u233, u234, u235, u236, u237], []⟩ wr := by
  conv => arg 2; whnf
  let Qb : Exit → Act → World → Prop := bodyPost Tryd.prog Tryd.f19 (fun _ _ => True)
  unfold maxLen at hll
  have b0 : (0 : Int) ≤ i := by omega
  have b1 : (i : Int) < ls.length := by omega
  have b2 : (i : Int) < 25 := by omega
  have hbw : Below W.heap.size W wr := Sat.below_all (L := Re ++ (Rs ++ (T ++ cellsA z zeroSaid 43 :: L0))) (by have := hg.sat; rw [HF.out] at this; simpa using this)
  obtain ⟨b, o, rfl, hc0, hc1⟩ := hl1 wr hbw i hi1
  generalize lf i = li at *
  obtain ⟨a0, a1⟩ := li
  simp only at hc0 hc1 hk
  obtain ⟨n1, n2⟩ := handPick_bounds a1 9 (by omega)
  obtain ⟨k1, k2⟩ := handPick_bounds a0 7 (by omega)
  obtain ⟨aE, cE, rfl⟩ := Ca.RowA.slice hg.row
  obtain ⟨aS, cS, rfl⟩ := Ca.RowA.slice hg.rowS
  go_wp2_with fail
  refine (hand_pick a1 9 _ (by omega) (by omega)).mono ?_; rintro r w4 ⟨rfl, rfl⟩
  go_wp2_with fail
  refine (hand_pick a0 7 _ (by omega) (by omega)).mono ?_; rintro r w4 ⟨rfl, rfl⟩
  generalize handPick a1 9 = n at *
  generalize handPick a0 7 = k at *
  have hPl := hg.len
  have hP1 : 0 < P.length := List.length_pos_iff.2 hP
  have hP2 : (0 : Int) < P.length := by omega
  subst hk
  go_wp2_with fail
  refine (errors_new _ W wr _ hg.sat).mono ?_; rintro r w2 ⟨b2, rfl, hs2⟩
  simp only [val]
  have hs2' : Sat W w2 (Re ++ (Rs ++ (cellsA b2 #[.string ⟨#[111, 116, 104, 101, 114]⟩] 91 :: (T ++ F)))) := hs2.use (by intro x; simp only [cnt_append, cnt_cons, cnt_nil]; omega)
  clear hs2
  go_wp2_with (at_builtin; refine wpList_plain rfl (fun K hK => ?_); first | (refine wp_append_vals rfl P [(ET.other b2 ⟨#[111, 116, 104, 101, 114]⟩, Value.slice none 0 0)] rfl rfl hg.row (sat_new hs2') (reads_new1 w2 _ _ _ rfl) (by simp <;> omega) (fun v2 w3 Re2 hre2 hs3 => ?_); have hs3' := Sat.use (M := Rs ++ (Re2 ++ (cellsA b2 #[.string ⟨#[111, 116, 104, 101, 114]⟩] 91 :: (T ++ F)))) hs3 (by intro x; simp only [cnt_append, cnt_cons, cnt_nil]; omega); clear hs3; refine hK _ _ ?_; simp only [Act.put, List.setIfInBounds_toArray, List.set_cons_zero, List.set_cons_succ]; clear hK) | (refine wp_append_said rfl P [(ET.other b2 ⟨#[111, 116, 104, 101, 114]⟩, Value.slice none 0 0)] rfl rfl hg.rowS (sat_new hs3') (reads_new5 w3 _ _ _ (by simp [cells5, code0, code1, of1, stripeO, textE])) (by simp [Value.oneCell']) (by simp <;> omega) (fun v4 w4 Rs4 hrs4 hs4 => ?_); refine hK _ _ ?_; simp only [Act.put, List.setIfInBounds_toArray, List.set_cons_zero, List.set_cons_succ]; clear hK))
  refine hend _ _ v2 v4 (P ++ [(ET.other b2 ⟨#[111, 116, 104, 101, 114]⟩, Value.slice none 0 0)]) Re2 Rs4 (cellsA b2 #[.string ⟨#[111, 116, 104, 101, 114]⟩] 91 :: T) ⟨rfl, rfl, rfl, rfl, rfl, rfl, rfl, by simp⟩ (hg.next hi2 hi1 (by simp <;> omega) (by rw [span_append, span_one]; simp [textE]) (tells_snoc hg.tells (fun x h => List.mem_cons_of_mem _ h) ⟨by unfold In; exact List.mem_cons_self .., NodesAt.nil _, by unfold Digs; trivial, by unfold Pos; trivial⟩) hre2 hrs4 (hs4.use (by intro x; simp only [cnt_append, cnt_cons, cnt_nil]; omega)))
end Go.Proofs.YtoknokbbggnmjaaDoor.Ca
