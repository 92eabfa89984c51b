/-
  Chapter 1's laws: grow, a round that wraps in a node.
-/
import Derived.Test.YtoknokbbggnmjaaDoorCaV0
import Derived.Deep.CutBlock
import Derived.Deep.DeepCutAuto
namespace Go.Proofs.YtoknokbbggnmjaaDoor.Ca
set_option linter.unusedSimpArgs false
open Go Go.RowKit Go.Sl Go.Extern.Stop Go.Stop Go.Extern
set_option linter.unusedVariables false

set_option maxRecDepth 100000 in
set_option maxHeartbeats 40000000 in
theorem grow_on {W : World} {F L0 : List Atom} {z cl i : Nat} {gl : Option Addr} {ls : List (Int × Int)} {lf : Nat → Int × Int} {ev sv : Value} {wr : World} {P : List PT} {Re Rs T : List Atom} {u1 u7 u8 u9 u10 u11 u12 u13 u14 u15 u16 u17 u18 u19 u20 u21 u22 u23 u24 u25 u26 u27 u28 u29 u30 u31 u32 u33 u34 u35 u36 u37 u38 u39 u40 u41 u42 u43 u44 u45 u46 u47 u48 u49 u50 u51 u52 u53 u54 u55 u56 u57 u58 u59 u60 u61 u62 u63 u64 u65 u66 u67 u68 u69 u70 u71 u72 u73 u74 u75 u76 u77 u78 u79 u80 u81 u82 u83 u84 u85 u86 u87 u88 u89 u90 u91 u92 u93 u94 u95 u96 u97 u98 u99 u100 u101 u102 u103 u104 u105 u106 u107 u108 u109 u110 u111 u112 u113 u114 u115 u116 u117 u118 u119 u120 u121 u122 u123 u124 u125 u126 u127 u128 u129 u130 u131 u132 u133 u134 u135 u136 u137 u138 u139 u140 u141 u142 u143 u144 u145 u146 u147 u148 u149 u150 u151 u152 u153 u154 u155 u156 u157 u158 u159 u160 u161 u162 u163 u164 u165 u166 u167 u168 u169 u170 u171 u172 u173 u174 u175 u176 u177 u178 u179 u180 u181 u182 u183 u184 u185 u186 u187 u188 u189 u190 u191 u192 u193 u194 u195 u196 u197 u198 u199 u200 u201 u202 u203 u204 u205 u206 u207 u208 u209 u210 u211 u212 u213 u214 u215 u216 u217 u218 u219 u220 u221 u222 u223 u224 u225 u226 u227 u228 u229 u230 u231 u232 u233 u234 u235 u236 u237 : Value} {K1 : Act → World → Prop} {Q0 : Exit → Act → World → Prop}
    (hll : ls.length ≤ maxLen) (hl1 : ∀ w, Below W.heap.size W w → ∀ j, j < ls.length → ∃ b o, gl = some ⟨b, o, none⟩ ∧ w.cell? ⟨b, o + j * 2, none⟩ = some (.int .i64 (lf j).1) ∧ w.cell? ⟨b, o + j * 2 + 1, none⟩ = some (.int .i64 (lf j).2))
    (HF : Hid (F = cellsA z zeroSaid 43 :: (L0 ++ allOf W))) (hi1 : i < ls.length) (hi2 : i < 25) (hg : GrowAt W F ls.length i ev sv wr P Re Rs T)
    (hend : ∀ (a' : Act) (w' : World) (ev' sv' : Value) (P' : List PT) (Re' Rs' T' : List Atom), FrameOk (.slice gl ls.length cl) z a' ev' sv' (i + 1) → GrowAt W F ls.length (i + 1) ev' sv' w' P' Re' Rs' T' → K1 a' w')
    (hk : handPick (lf i).1 7 = 4) (hP : P ≠ []) :
    Code.wp Tryd.prog growBody (Exit.then K1 Q0) ⟨#[.slice gl ls.length cl, u1, .nilIface, .pointer (some ⟨z, 0, none⟩), ev, sv, .int .i64 i, u7, u8, u9, u10, u11, u12, u13, u14, u15, u16, u17, u18, u19, u20, u21, u22, u23, u24, u25, u26, u27, u28, u29, u30, u31, u32, u33, u34, u35, u36, u37, u38, u39, u40, u41, u42, u43, u44, u45, u46, u47, u48, u49, u50, u51, u52, u53, u54, u55, u56, u57, u58, u59, u60, u61, u62, u63, u64, u65, u66, u67, u68, u69, u70, u71, u72, u73, u74, u75, u76, u77, u78, u79, u80, u81, u82, u83, u84, u85, u86, u87, u88, u89, u90, u91, u92, u93, u94, u95, u96, u97, u98, u99, u100, u101, u102, u103, u104, u105, u106, u107, u108, u109, u110, u111, u112, u113, u114, u115, u116, u117, u118, u119, u120, u121, u122, u123, u124, u125, u126, u127, u128, u129, u130, u131, u132, u133, u134, u135, u136, u137, u138, u139, u140, u141, u142, u143, u144, u145, u146, u147, u148, u149, u150, u151, u152, u153, u154, u155, u156, u157, u158, u159, u160, u161, u162, u163, u164, u165, u166, u167, u168, u169, u170, u171, u172, u173, u174, u175, u176, u177, u178, u179, u180, u181, u182, u183, u184, u185, u186, u187, u188, u189, u190, u191, u192, u193, u194, u195, u196, u197, u198, u199, u200, u201, u202, u203, u204, u205, u206, u207, u208, u209, u210, u211, u212, u213, u214, u215, u216, u217, u218, u219, u220, u221, u222, u223, u224, u225, u226, u227, u228, u229, u230, u231, u232, u233, u234, u235, u236, u237], []⟩ wr := by
  conv => arg 2; whnf
  let Qb : Exit → Act → World → Prop := bodyPost Tryd.prog Tryd.f19 (fun _ _ => True)
  unfold maxLen at hll
  have b0 : (0 : Int) ≤ i := by omega
  have b1 : (i : Int) < ls.length := by omega
  have b2 : (i : Int) < 25 := by omega
  have hbw : Below W.heap.size W wr := Sat.below_all (L := Re ++ (Rs ++ (T ++ cellsA z zeroSaid 43 :: L0))) (by have := hg.sat; rw [HF.out] at this; simpa using this)
  obtain ⟨b, o, rfl, hc0, hc1⟩ := hl1 wr hbw i hi1
  generalize lf i = li at *
  obtain ⟨a0, a1⟩ := li
  simp only at hc0 hc1 hk
  obtain ⟨n1, n2⟩ := handPick_bounds a1 9 (by omega)
  obtain ⟨k1, k2⟩ := handPick_bounds a0 7 (by omega)
  obtain ⟨aE, cE, rfl⟩ := Ca.RowA.slice hg.row
  obtain ⟨aS, cS, rfl⟩ := Ca.RowA.slice hg.rowS
  go_wp2_with fail
  refine (hand_pick a1 9 _ (by omega) (by omega)).mono ?_; rintro r w4 ⟨rfl, rfl⟩
  go_wp2_with fail
  refine (hand_pick a0 7 _ (by omega) (by omega)).mono ?_; rintro r w4 ⟨rfl, rfl⟩
  generalize handPick a1 9 = n at *
  generalize handPick a0 7 = k at *
  have hPl := hg.len
  have hP1 : 0 < P.length := List.length_pos_iff.2 hP
  have hP2 : (0 : Int) < P.length := by omega
  subst hk
  obtain ⟨Q, q, rfl⟩ : ∃ Q q, P = Q ++ [q] := ⟨P.dropLast, P.getLast hP, (List.dropLast_concat_getLast hP).symm⟩
  have hlq : (Q ++ [q]).length = Q.length + 1 := by simp
  have hre0 := hg.row
  have hrs0 := hg.rowS
  rw [hlq] at hPl hre0 hrs0 ⊢
  clear hP hlq
  have hsat0 := hg.sat
  rcases hre0.2 with ⟨_, hz, _⟩ | ⟨gE, oE, _, e1, hcE, hcE2, rfl⟩
  · omega
  simp only [Value.slice.injEq] at e1
  obtain ⟨rfl, _, rfl⟩ := e1
  rcases hrs0.2 with ⟨_, hz, _⟩ | ⟨gS, oS, _, e1, hcS, hcS2, rfl⟩
  · omega
  simp only [Value.slice.injEq] at e1
  obtain ⟨rfl, _, rfl⟩ := e1
  have hne : gE ≠ gS := Sat.ne hsat0
  have hne2 : gS ≠ gE := fun h => hne h.symm
  have hsat : Sat W wr (rowE gE oE cE (vals Q ++ [val q.1]) ++ (rowS gS oS cS (flatP Q ++ cells5 q) ++ (T ++ F))) := by
    rw [vals_append, flatP_append, flatP_one] at hsat0
    exact hsat0
  clear hsat0
  have hqt : (nodesE q.1).length < 300 := by
    have h1 := nodes_text q.1
    have h2 := span_mem (P := Q ++ [q]) (p := q) (by simp)
    have h3 := hg.span
    omega
  have q0 : wr.cell? ⟨gE, oE + Q.length, none⟩ = some (val q.1) := by
    exact (row_cell hsat Q.length _ (vals_at Q _)).1
  go_upto_region 32 with fail
  go_cut [] (fun wx => ∃ b, Sat W wx (rowE gE oE cE (vals Q ++ [val (ET.on b n q.1)]) ++ (rowS gS oS cS (flatP Q ++ cells5 q) ++ (cellsA b #[.int .i64 n, val q.1] 52 :: (T ++ F)))))
  case first =>
    go_wp2_with fail
    refine (at_node2 n q.1 W wr _ hsat).mono ?_; rintro r w5 ⟨b5, rfl, hs5⟩
    have hs6 : Sat W w5 (rowE gE oE cE (vals Q ++ [val q.1]) ++ (rowS gS oS cS (flatP Q ++ cells5 q) ++ (cellsA b5 #[.int .i64 n, val q.1] 52 :: (T ++ F)))) := hs5.use (by intro x; simp only [cnt_append, cnt_cons, cnt_nil]; omega)
    obtain ⟨p0, p1⟩ := row_cell hs6 Q.length _ (vals_at Q _)
    clear hs5
    go_wp2_with fail
    go_meet
    have h := row_put hs6 Q.length (by simp [vals_length]) (.iface 46 (.pointer (some ⟨b5, 0, none⟩)))
    rw [vals_set] at h
    exact ⟨b5, h⟩
  case rest =>
    clear q0 hsat
    obtain ⟨b5, hsat⟩ := hcut
    go_upto_region 33 with fail
    go_cut [] (fun wx => ∃ v' R, RowA 3 1 v' ([n] ++ nodesE q.1).length (ints ([n] ++ nodesE q.1)) R ∧ Sat W wx (rowE gE oE cE (vals Q ++ [val (ET.on b5 n q.1)]) ++ (rowS gS oS cS (flatP Q ++ (cells5 q).set 1 v') ++ (R ++ (cellsA b5 #[.int .i64 n, val q.1] 52 :: (T ++ F))))))
    case first =>
      have hsS : Sat W wc (rowS gS oS cS (flatP Q ++ cells5 q) ++ (rowE gE oE cE (vals Q ++ [val (ET.on b5 n q.1)]) ++ (cellsA b5 #[.int .i64 n, val q.1] 52 :: (T ++ F)))) := hsat.use (by intro x; simp only [cnt_append, cnt_cons, cnt_nil]; omega)
      obtain ⟨p0, _⟩ := row_cell hsS (Q.length * 5 + 1) q.2 (flat_at Q _ 1)
      have hsN := row_new1 hsS (.int .i64 n) 3
      have hrN : RowA 3 1 (.slice (some ⟨wc.heap.size, 0, none⟩) 1 1) [n].length (ints [n]) [(wc.heap.size, rowP 3 0 (1 * 1) [.int .i64 n])] := ⟨by simp [ints], .inr ⟨_, 0, 1, rfl, Nat.le_refl _, by decide, rfl⟩⟩
      obtain ⟨Rn, hrn, hRn⟩ := (hg.tells q (by simp)).nodes
      have hrd := hrn.reads (Sat.pick hsN (Ca.RowA.short hrn) (fun x hx => List.mem_append_right _ (List.mem_append_right _ (List.mem_append_right _ (List.mem_cons_of_mem _ (List.mem_append_left _ (hRn x hx)))))))
      have p0' : wc.cell? ⟨gS, oS + Q.length * 5 + 1, none⟩ = some q.2 := p0
      have hlt : gS < wc.heap.size := hsS.lt m0
      obtain ⟨ln, hln⟩ : ∃ ln, ln = [n] ++ nodesE q.1 := ⟨_, rfl⟩
      have HLN := Lib.hid hln
      clear hln
      clear p0
      go_wp2_with (at_builtin; refine wpList_plain rfl (fun K hK => ?_); refine wp_append_int rfl [n] (nodesE q.1) (sv := q.2) rfl rfl hrN hsN hrd (by simp <;> omega) (fun v2 w2 R2 hr2 hs2 => ?_); rw [← HLN.out] at hr2; obtain ⟨a2, c2, rfl⟩ := Ca.RowA.slice hr2; have hs3 := Sat.use (M := rowS gS oS cS (flatP Q ++ cells5 q) ++ (rowE gE oE cE (vals Q ++ [val (ET.on b5 n q.1)]) ++ (R2 ++ (cellsA b5 #[.int .i64 n, val q.1] 52 :: (T ++ F))))) hs2 (by intro x; simp only [cnt_append, cnt_cons, cnt_nil]; omega); clear hs2; obtain ⟨z0, z1⟩ := row_cell hs3 (Q.length * 5 + 1) q.2 (flat_at Q _ 1); have z0' : w2.cell? ⟨gS, oS + Q.length * 5 + 1, none⟩ = some q.2 := z0; have z1' : w2.frozen? ⟨gS, oS + Q.length * 5 + 1, none⟩ = false := z1; clear z0 z1; refine hK _ _ ?_; simp only [Act.put, List.setIfInBounds_toArray, List.set_cons_zero, List.set_cons_succ]; clear hK)
      go_meet
      have h := row_put hs3 (Q.length * 5 + 1) (by simp [flatP_length, cells5] <;> omega) (.slice a2 ln.length c2)
      rw [flat_set] at h
      rw [← HLN.out]
      exact ⟨_, R2, hr2, h.use (by intro x; simp only [cnt_append, cnt_cons, cnt_nil]; omega)⟩
    case rest =>
      clear hsat
      obtain ⟨v5, R5, hr5, hsat⟩ := hcut
      obtain ⟨LL, hLL⟩ : ∃ LL, LL = rowS gS oS cS (flatP Q ++ (cells5 q).set 1 v5) ++ (rowE gE oE cE (vals Q ++ [val (ET.on b5 n q.1)]) ++ (R5 ++ (cellsA b5 #[.int .i64 n, val q.1] 52 :: (T ++ F)))) := ⟨_, rfl⟩
      have hsL : Sat W wc LL := by rw [hLL]; exact hsat.use (by intro x; simp only [cnt_append, cnt_cons, cnt_nil]; omega)
      have hcl : ∀ y : Of W LL, y.v.cell? ⟨gS, oS + Q.length * 5 + 4, none⟩ = some (str (textE q.1)) := fun y => by
        obtain ⟨y, h⟩ := y
        rw [hLL] at h
        exact (row_cell h (Q.length * 5 + 4) (str (textE q.1)) (flat_at Q _ 4)).1
      have HLL := Lib.hid hLL
      clear hLL hsat
      have htx : (textE q.1).length < 300 := by
        have h2 := span_mem (P := Q ++ [q]) (p := q) (by simp)
        have h3 := hg.span
        omega
      go_wp2_with fail
      refine wp_region_held1 [3, 14] [0, 1, 6, 7, 8, 9, 10] [0, 1, 6, 7, 8, 9] [3] [0, 1, 2, 6, 7, 8, 9, 10, 3, 4, 5, 11, 12, 13, 14] (Held W LL) (by kernel_rfl) (by kernel_rfl) ?_ ?_
      · exact Held.mk hsL.drew
      have hne0 : Nonempty (Of W LL) := ⟨⟨_, hsL⟩⟩
      repeat (first | (refine can_pu1 rfl rfl rfl rfl rfl rfl (fun K hK => ?_); go_big_quiet_op; refine hK _ ?_; clear hK K) | (refine can_st1 rfl rfl rfl rfl rfl rfl (fun K hK => ?_); go_big_quiet_op; refine hK _ ?_; clear hK K) | (refine can_early1 rfl rfl rfl rfl rfl (fun K hK => ?_); go_big_quiet_op; refine hK _ ?_; clear hK K) | (refine can_skip rfl rfl rfl ?_; simp only [Act.put, List.setIfInBounds_toArray, List.set_cons_zero, List.set_cons_succ]))
      refine can_actS rfl rfl rfl rfl (fun K hK => ?_)
      go_wp2_with fail
      refine (digits_any n (by omega) (by omega) _).mono ?_; rintro r w6 ⟨rfl, hb6⟩
      have hs6 : Sat W w6 LL := hsL.drew.below hb6
      apply hK
      refine ⟨Held.mk hs6, ?_⟩
      clear hK
      simp only [dg]
      repeat (first | (refine can_pu1 rfl rfl rfl rfl rfl rfl (fun K hK => ?_); go_big_quiet_op; refine hK _ ?_; clear hK K) | (refine can_st1 rfl rfl rfl rfl rfl rfl (fun K hK => ?_); go_big_quiet_op; refine hK _ ?_; clear hK K) | (refine can_early1 rfl rfl rfl rfl rfl (fun K hK => ?_); go_big_quiet_op; refine hK _ ?_; clear hK K) | (refine can_skip rfl rfl rfl ?_; simp only [Act.put, List.setIfInBounds_toArray, List.set_cons_zero, List.set_cons_succ]))
      refine can_actF rfl rfl rfl rfl (fun K hK => ?_)
      rw [HLL.out] at hs6
      obtain ⟨z0, z1⟩ := row_cell hs6 (Q.length * 5 + 4) (str (textE q.1)) (flat_at Q _ 4)
      have z0' : w6.cell? ⟨gS, oS + Q.length * 5 + 4, none⟩ = some (str (textE q.1)) := z0
      have z1' : w6.frozen? ⟨gS, oS + Q.length * 5 + 4, none⟩ = false := z1
      clear z0 z1
      go_wp2_with fail
      refine can_end1 ?_; (try simp only [Exit.then])
      go_wp2_with fail
      rw [show (({ data := #[110, 111, 100, 101, 32] } : ByteArray) ++ { data := #[48 + UInt8.ofNat n.toNat] } ++ { data := #[58, 32] } ++ { data := (textE q.1).toArray }) = ⟨(textE (ET.on b5 n q.1)).toArray⟩ by simp [textE, tNode, tColon, dg, ba_app]]
      have hput := row_put hs6 (Q.length * 5 + 4) (by simp [flatP_length, cells5] <;> omega) (str (textE (ET.on b5 n q.1)))
      rw [flat_set, cells_on] at hput
      refine hend _ _ (.slice (some ⟨gE, oE, none⟩) (Q.length + 1) cE) (.slice (some ⟨gS, oS, none⟩) (Q.length + 1) cS) (Q ++ [(ET.on b5 n q.1, v5)]) _ _ (R5 ++ (cellsA b5 #[.int .i64 n, val q.1] 52 :: T)) ⟨rfl, rfl, rfl, rfl, rfl, rfl, rfl, by simp⟩ (hg.next hi2 hi1 (by simp <;> omega) (span_last _ _ _ (by simp [textE, tNode, tColon, dg] <;> omega)) (tells_last hg.tells (fun x hx => List.mem_append_right _ (List.mem_cons_of_mem _ hx)) ⟨In.on' (List.mem_append_right _ (List.mem_cons_self ..)) (((hg.tells q (by simp)).inT).mono (fun x hx => List.mem_append_right _ (List.mem_cons_of_mem _ hx))), ⟨R5, by rw [nodesE]; exact hr5, fun x hx => List.mem_append_left _ hx⟩, by unfold Digs; exact ⟨⟨by omega, by omega⟩, (hg.tells q (by simp)).digs⟩, by unfold Pos; exact (hg.tells q (by simp)).pos⟩) (row_mkE _ hcE hcE2) (row_mkS _ hcS hcS2) (Sat.use hput (by intro x; simp only [cnt_append, cnt_cons, cnt_nil]; omega)))
end Go.Proofs.YtoknokbbggnmjaaDoor.Ca
