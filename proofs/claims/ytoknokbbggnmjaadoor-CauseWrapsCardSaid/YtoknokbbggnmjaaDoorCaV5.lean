/-
  Chapter 1's laws: grow, a round that joins.
-/
import Derived.Test.YtoknokbbggnmjaaDoorCaV0
import Derived.Deep.CutBlock
import Derived.Deep.DeepCutAuto
namespace Go.Proofs.YtoknokbbggnmjaaDoor.Ca
set_option linter.unusedSimpArgs false
open Go Go.RowKit Go.Sl Go.Extern.Stop Go.Stop Go.Extern
set_option linter.unusedVariables false

set_option maxRecDepth 100000 in
set_option maxHeartbeats 40000000 in
theorem grow_join {W : World} {F L0 : List Atom} {z cl i : Nat} {gl : Option Addr} {ls : List (Int × Int)} {lf : Nat → Int × Int} {ev sv : Value} {wr : World} {P : List PT} {Re Rs T : List Atom} {u1 u7 u8 u9 u10 u11 u12 u13 u14 u15 u16 u17 u18 u19 u20 u21 u22 u23 u24 u25 u26 u27 u28 u29 u30 u31 u32 u33 u34 u35 u36 u37 u38 u39 u40 u41 u42 u43 u44 u45 u46 u47 u48 u49 u50 u51 u52 u53 u54 u55 u56 u57 u58 u59 u60 u61 u62 u63 u64 u65 u66 u67 u68 u69 u70 u71 u72 u73 u74 u75 u76 u77 u78 u79 u80 u81 u82 u83 u84 u85 u86 u87 u88 u89 u90 u91 u92 u93 u94 u95 u96 u97 u98 u99 u100 u101 u102 u103 u104 u105 u106 u107 u108 u109 u110 u111 u112 u113 u114 u115 u116 u117 u118 u119 u120 u121 u122 u123 u124 u125 u126 u127 u128 u129 u130 u131 u132 u133 u134 u135 u136 u137 u138 u139 u140 u141 u142 u143 u144 u145 u146 u147 u148 u149 u150 u151 u152 u153 u154 u155 u156 u157 u158 u159 u160 u161 u162 u163 u164 u165 u166 u167 u168 u169 u170 u171 u172 u173 u174 u175 u176 u177 u178 u179 u180 u181 u182 u183 u184 u185 u186 u187 u188 u189 u190 u191 u192 u193 u194 u195 u196 u197 u198 u199 u200 u201 u202 u203 u204 u205 u206 u207 u208 u209 u210 u211 u212 u213 u214 u215 u216 u217 u218 u219 u220 u221 u222 u223 u224 u225 u226 u227 u228 u229 u230 u231 u232 u233 u234 u235 u236 u237 : Value} {K1 : Act → World → Prop} {Q0 : Exit → Act → World → Prop}
    (hll : ls.length ≤ maxLen) (hl1 : ∀ w, Below W.heap.size W w → ∀ j, j < ls.length → ∃ b o, gl = some ⟨b, o, none⟩ ∧ w.cell? ⟨b, o + j * 2, none⟩ = some (.int .i64 (lf j).1) ∧ w.cell? ⟨b, o + j * 2 + 1, none⟩ = some (.int .i64 (lf j).2))
    (HF : Hid (F = cellsA z zeroSaid 43 :: (L0 ++ allOf W))) (hi1 : i < ls.length) (hi2 : i < 25) (hg : GrowAt W F ls.length i ev sv wr P Re Rs T)
    (hend : ∀ (a' : Act) (w' : World) (ev' sv' : Value) (P' : List PT) (Re' Rs' T' : List Atom), FrameOk (.slice gl ls.length cl) z a' ev' sv' (i + 1) → GrowAt W F ls.length (i + 1) ev' sv' w' P' Re' Rs' T' → K1 a' w')
    (hk : handPick (lf i).1 7 = 6) (hP : P ≠ []) :
    Code.wp Tryd.prog growBody (Exit.then K1 Q0) ⟨#[.slice gl ls.length cl, u1, .nilIface, .pointer (some ⟨z, 0, none⟩), ev, sv, .int .i64 i, u7, u8, u9, u10, u11, u12, u13, u14, u15, u16, u17, u18, u19, u20, u21, u22, u23, u24, u25, u26, u27, u28, u29, u30, u31, u32, u33, u34, u35, u36, u37, u38, u39, u40, u41, u42, u43, u44, u45, u46, u47, u48, u49, u50, u51, u52, u53, u54, u55, u56, u57, u58, u59, u60, u61, u62, u63, u64, u65, u66, u67, u68, u69, u70, u71, u72, u73, u74, u75, u76, u77, u78, u79, u80, u81, u82, u83, u84, u85, u86, u87, u88, u89, u90, u91, u92, u93, u94, u95, u96, u97, u98, u99, u100, u101, u102, u103, u104, u105, u106, u107, u108, u109, u110, u111, u112, u113, u114, u115, u116, u117, u118, u119, u120, u121, u122, u123, u124, u125, u126, u127, u128, u129, u130, u131, u132, u133, u134, u135, u136, u137, u138, u139, u140, u141, u142, u143, u144, u145, u146, u147, u148, u149, u150, u151, u152, u153, u154, u155, u156, u157, u158, u159, u160, u161, u162, u163, u164, u165, u166, u167, u168, u169, u170, u171, u172, u173, u174, u175, u176, u177, u178, u179, u180, u181, u182, u183, u184, u185, u186, u187, u188, u189, u190, u191, u192, u193, u194, u195, u196, u197, u198, u199, u200, u201, u202, u203, u204, u205, u206, u207, u208, u209, u210, u211, u212, u213, u214, u215, u216, u217, u218, u219, u220, u221, u222, u223, u224, u225, u226, u227, u228, u229, u230, u231, u232, u233, u234, u235, u236, u237], []⟩ wr := by
  conv => arg 2; whnf
  let Qb : Exit → Act → World → Prop := bodyPost Tryd.prog Tryd.f19 (fun _ _ => True)
  unfold maxLen at hll
  have b0 : (0 : Int) ≤ i := by omega
  have b1 : (i : Int) < ls.length := by omega
  have b2 : (i : Int) < 25 := by omega
  have hbw : Below W.heap.size W wr := Sat.below_all (L := Re ++ (Rs ++ (T ++ cellsA z zeroSaid 43 :: L0))) (by have := hg.sat; rw [HF.out] at this; simpa using this)
  obtain ⟨b, o, rfl, hc0, hc1⟩ := hl1 wr hbw i hi1
  generalize lf i = li at *
  obtain ⟨a0, a1⟩ := li
  simp only at hc0 hc1 hk
  obtain ⟨n1, n2⟩ := handPick_bounds a1 9 (by omega)
  obtain ⟨k1, k2⟩ := handPick_bounds a0 7 (by omega)
  obtain ⟨aE, cE, rfl⟩ := Ca.RowA.slice hg.row
  obtain ⟨aS, cS, rfl⟩ := Ca.RowA.slice hg.rowS
  go_wp2_with fail
  refine (hand_pick a1 9 _ (by omega) (by omega)).mono ?_; rintro r w4 ⟨rfl, rfl⟩
  go_wp2_with fail
  refine (hand_pick a0 7 _ (by omega) (by omega)).mono ?_; rintro r w4 ⟨rfl, rfl⟩
  generalize handPick a1 9 = n at *
  generalize handPick a0 7 = k at *
  have hPl := hg.len
  have hP1 : 0 < P.length := List.length_pos_iff.2 hP
  have hP2 : (0 : Int) < P.length := by omega
  subst hk
  obtain ⟨pp1, pp2⟩ := handPick_bounds a1 4 (by omega)
  go_upto_region 9 with fail
  go_cut [10] (fun fv wx => ∃ f : Nat, f < P.length ∧ fv = .int .i64 f ∧ Sat W wx (Re ++ (Rs ++ (T ++ F))))
  case first =>
    go_wp2_with fail
    refine (hand_pick a1 4 _ (by omega) (by omega)).mono ?_; rintro r w4 ⟨rfl, rfl⟩
    generalize handPick a1 4 = pp at *
    go_wp2_with fail
    go_meet
    exact ⟨(max 0 ((P.length : Int) - 1 - pp)).toNat, by omega, by congr 1; omega, hg.sat⟩
  case rest =>
    obtain ⟨f, hf, rfl, hsat⟩ := hcut
    obtain ⟨A, x, M, rfl, rfl⟩ := split_at hf
    obtain ⟨ax, nx, cx, hx2⟩ := (hg.tells x (by simp)).nodes.slice
    have HX2 := Lib.hid hx2
    clear hx2
    have hlq : (A ++ x :: M).length = A.length + (M.length + 1) := by simp
    have hre0 := hg.row
    have hrs0 := hg.rowS
    have htells := hg.tells
    rw [hlq] at hPl hre0 hrs0 ⊢
    clear hP hlq hf hP1 hP2
    rcases hre0.2 with ⟨_, hz, _⟩ | ⟨gE, oE, _, e1, hcE, hcE2, rfl⟩
    · omega
    simp only [Value.slice.injEq] at e1
    obtain ⟨rfl, _, rfl⟩ := e1
    rcases hrs0.2 with ⟨_, hz, _⟩ | ⟨gS, oS, _, e1, hcS, hcS2, rfl⟩
    · omega
    simp only [Value.slice.injEq] at e1
    obtain ⟨rfl, _, rfl⟩ := e1
    have hsat1 : Sat W wc (rowE gE oE cE (vals A ++ vals (x :: M)) ++ (rowS gS oS cS (flatP A ++ flatP (x :: M)) ++ (T ++ F))) := by
      rw [vals_append, flatP_append] at hsat
      exact hsat
    clear hsat
    have hM0 : M.length < 25 := by omega
    have hA0 : A.length < 25 := by omega
    have a0 : (0 : Int) ≤ A.length := by omega
    have a1 : (A.length : Int) ≤ A.length + (M.length + 1) := by omega
    have a2 : A.length ≤ cE := by omega
    have a3 : ¬ A.length = cE := by omega
    have a4 : ¬ cE = A.length := by omega
    obtain ⟨MS, hMS⟩ : ∃ MS, MS = (x :: M).map fun p : PT => some p.1 := ⟨_, rfl⟩
    have hMSl : MS.length = M.length + 1 := by rw [hMS]; simp
    have hMSv : MS.map oval = vals (x :: M) := by rw [hMS, List.map_map]; rfl
    have hn1 : Sat W (wc.alloc (.cells #[.nilIface] 27)) ([(wc.heap.size, rowP 27 0 (1 * 1) [.nilIface])] ++ (rowE gE oE cE (vals A ++ vals (x :: M)) ++ (rowS gS oS cS (flatP A ++ flatP (x :: M)) ++ (T ++ F)))) := row_new1 hsat1 .nilIface _
    have hrn1 : RowA 27 1 (.slice (some ⟨wc.heap.size, 0, none⟩) 1 1) [(none : Option ET)].length ([(none : Option ET)].map oval) [(wc.heap.size, rowP 27 0 (1 * 1) [.nilIface])] := ⟨by simp, .inr ⟨_, 0, 1, rfl, Nat.le_refl _, by decide, rfl⟩⟩
    have hrd1 : Reads (wc.alloc (.cells #[.nilIface] 27)) (.slice (some ⟨gE, oE + A.length, none⟩) (M.length + 1) (cE - A.length)) MS.length (MS.map oval) := by
      rw [hMSl, hMSv]
      refine .inr ⟨_, _, rfl, fun j u hu => ?_⟩
      have hs : Sat W (wc.alloc (.cells #[.nilIface] 27)) (rowE gE oE cE (vals A ++ vals (x :: M)) ++ ([(wc.heap.size, rowP 27 0 (1 * 1) [.nilIface])] ++ (rowS gS oS cS (flatP A ++ flatP (x :: M)) ++ (T ++ F)))) := hn1.use (by intro x; simp only [cnt_append, cnt_cons, cnt_nil]; omega)
      have h := (row_cell hs (A.length + j) u (by rw [List.getElem?_append_right (by rw [vals_length]; omega), vals_length, Nat.add_sub_cancel_left]; exact hu)).1
      rw [add_row, Nat.add_assoc]
      exact h
    have HMSV := Lib.hid hMSv
    have HMSL := Lib.hid hMSl
    have HMS := Lib.hid hMS
    have hb1 : MS.length < 1000 := by omega
    clear hMSv hMSl hMS
    obtain ⟨NS, hNS⟩ : ∃ NS, NS = [(none : Option ET)] ++ MS := ⟨_, rfl⟩
    have hNSl : NS.length < 1001 := by rw [hNS]; simp <;> omega
    have HNS := Lib.hid hNS
    clear hNS
    go_upto_region 10 with fail
    go_wp2_with (at_builtin; refine wpList_plain rfl (fun K hK => ?_); first | (refine wp_append_oval rfl [(none : Option ET)] MS rfl rfl hrn1 hn1 hrd1 (by simp <;> omega) (fun v2 w2 R2 hr2 hs2 => ?_); rw [← HNS.out] at hr2; obtain ⟨aN, cN, rfl⟩ := Ca.RowA.slice hr2; refine hK _ _ ?_; simp only [Act.put, List.setIfInBounds_toArray, List.set_cons_zero, List.set_cons_succ]; clear hK) | (refine wp_append_oval rfl NS [(none : Option ET)] rfl rfl hr2 (sat_new hs2) (reads_nil1 w2 _) (by simp <;> omega) (fun v3 w3 R3 hr3 hs3 => ?_); refine hK _ _ ?_; simp only [Act.put, List.setIfInBounds_toArray, List.set_cons_zero, List.set_cons_succ]; clear hK))
    rw [HNS.out, HMS.out] at hr3
    have hs4 : Sat W w3 (R3 ++ (rowE gE oE cE (vals A ++ vals (x :: M)) ++ (rowS gS oS cS (flatP A ++ flatP (x :: M)) ++ (T ++ F)))) := hs3.use (by intro x; simp only [cnt_append, cnt_cons, cnt_nil]; omega)
    clear hs2 hs3 hn1 hrd1 hrn1
    refine (join_grown W w3 _ T v3 (x :: M) (by simp) hs4 ⟨by simp <;> omega, R3, by simpa using hr3, fun y hy => List.mem_append_left _ hy⟩ (fun p hp => htells p (List.mem_append_right _ hp)) (by simp <;> omega)).mono ?_; rintro r w5 ⟨e', N', rfl, hsum, hs5⟩
    obtain ⟨te, ve, hve⟩ := val_iface e'
    rw [hve]
    have HVE := Lib.hid hve
    clear hve
    obtain ⟨T1, hT1⟩ : ∃ T1, T1 = N' ++ T := ⟨_, rfl⟩
    have hT1s : ∀ y ∈ T, y ∈ T1 := fun y hy => by rw [hT1]; exact List.mem_append_right _ hy
    have hs6 : Sat W w5 (rowE gE oE cE (vals A ++ vals (x :: M)) ++ (rowS gS oS cS (flatP A ++ flatP (x :: M)) ++ (T1 ++ F))) := by rw [hT1]; exact hs5.use (by intro x; simp only [cnt_append, cnt_cons, cnt_nil]; omega)
    rw [← hT1] at hsum
    clear hs5 hT1 hs4 hsat1
    have htx := htells x (by simp)
    have hfx : ∀ (j : Nat) u, (cells5 x)[j]? = some u → (flatP A ++ flatP (x :: M))[A.length * 5 + j]? = some u := fun j u hu => by
      rw [flat_at, show flatP (x :: M) = cells5 x ++ flatP M by simp [flatP], List.getElem?_append_left (List.getElem?_eq_some_iff.1 hu).1, hu]
    have hs7 : Sat W w5 (rowS gS oS cS (flatP A ++ flatP (x :: M)) ++ (rowE gE oE cE (vals A ++ vals (x :: M)) ++ (T1 ++ F))) := hs6.use (by intro x; simp only [cnt_append, cnt_cons, cnt_nil]; omega)
    have x0 : w5.cell? ⟨gS, oS + A.length * 5, none⟩ = some (.int .i64 (code0 x.1)) := (row_cell hs7 (A.length * 5 + 0) _ (hfx 0 _ rfl)).1
    have x1 : w5.cell? ⟨gS, oS + A.length * 5 + 1, none⟩ = some (.slice ax nx cx) := by rw [← HX2.out]; exact (row_cell hs7 (A.length * 5 + 1) _ (hfx 1 _ rfl)).1
    have x2 : w5.cell? ⟨gS, oS + A.length * 5 + 2, none⟩ = some (.int .i64 (stripeO (of1 x.1))) := (row_cell hs7 (A.length * 5 + 2) _ (hfx 2 _ rfl)).1
    have x3 : w5.cell? ⟨gS, oS + A.length * 5 + 3, none⟩ = some (.bool (of1 x.1).isSome) := (row_cell hs7 (A.length * 5 + 3) _ (hfx 3 _ rfl)).1
    have x4 : w5.cell? ⟨gS, oS + A.length * 5 + 4, none⟩ = some (str (textE x.1)) := (row_cell hs7 (A.length * 5 + 4) _ (hfx 4 _ rfl)).1
    clear hs7 hfx
    go_upto_region 11 with fail
    go_cut [12] (fun pv wx => ∃ zs, pv = .pointer (some ⟨zs, 0, none⟩) ∧ Sat W wx (cellsA zs (sCells [x.1] x.2) 43 :: (rowE gE oE cE (vals A ++ vals (x :: M)) ++ (rowS gS oS cS (flatP A ++ flatP (x :: M)) ++ (T1 ++ F)))))
    case first =>
      have hn := hs6.newCells (sCells [x.1] x.2) 43
      rw [sCells_one', HX2.out] at hn
      go_wp2_with fail
      go_meet
      exact ⟨_, rfl, by rw [sCells_one', HX2.out]; exact hn⟩
    case rest =>
    clear x0 x1 x2 x3 x4 hs6
    obtain ⟨zs, rfl, hs⟩ := hcut
    go_upto_region 12 with fail
    go_cut [64, 65, 66] (fun sv nv kv wx => ∃ oB c m, sv = .slice (some ⟨gS, oB, none⟩) m c ∧ m = M.length ∧ (0 < M.length → oB = oS + (A.length + 1) * 5) ∧ nv = .int .i64 m ∧ kv = .int .i64 0 ∧ Sat W wx (cellsA zs (sCells [x.1] x.2) 43 :: (rowE gE oE cE (vals A ++ vals (x :: M)) ++ (rowS gS oS cS (flatP A ++ flatP (x :: M)) ++ (T1 ++ F)))))
    case first =>
      have s1 : A.length + 1 ≤ cS := by omega
      by_cases hc : A.length + 1 = cS
      · have hM1 : M.length < 1 := by omega
        have hc2 : cS = A.length + 1 := hc.symm
        subst hc2
        go_wp2_with fail
        go_meet
        exact ⟨_, _, _, rfl, by omega, fun h => by omega, rfl, rfl, hs⟩
      · have hc2 : ¬ cS = A.length + 1 := fun h => hc h.symm
        go_wp2_with fail
        go_meet
        exact ⟨_, _, _, rfl, by omega, fun _ => rfl, rfl, rfl, hs⟩
    case rest =>
    obtain ⟨oB, cB, m, rfl, rfl, hoB, rfl, rfl, hs⟩ := hcut
    go_wp2_with fail
    go_loopw [66] (fun kv wr => ∃ (k : Nat) (v : Value) (T2 : List Atom), kv = .int .i64 k ∧ k ≤ M.length ∧ (∀ y ∈ T1, y ∈ T2) ∧ NodesAt T2 v (nodesL ((x :: M.take k).map (·.1))) ∧ Sat W wr (cellsA zs (sCells ((x :: M.take k).map (·.1)) v) 43 :: (rowE gE oE cE (vals A ++ vals (x :: M)) ++ (rowS gS oS cS (flatP A ++ flatP (x :: M)) ++ (T2 ++ F))))) (fun kv _ => (M.length - (intOf kv).toNat))
    case atStart => exact ⟨0, x.2, T1, rfl, Nat.zero_le _, fun y h => h, by simpa [nodesL] using htx.nodes.mono hT1s, by simpa using hs⟩
    case round =>
      clear hs
      obtain ⟨k, v, T2, rfl, hk, hT12, hnv, hs⟩ := hrel
      have k0 : (0 : Int) ≤ k := by omega
      by_cases hkM : k < M.length
      · have k1 : (k : Int) < M.length := by omega
        have hoB2 := hoB (by omega)
        obtain ⟨y, hy⟩ : ∃ y, M[k]? = some y := ⟨_, List.getElem?_eq_getElem hkM⟩
        have hyP : y ∈ A ++ x :: M := by have := List.mem_of_getElem? hy; simp [this]
        have hty := htells y hyP
        have hTT : ∀ z ∈ T, z ∈ T2 := fun z hz => hT12 z (hT1s z hz)
        obtain ⟨ay, ny, cy, hy2⟩ := hty.nodes.slice
        obtain ⟨av, nv, cv, rfl⟩ := hnv.slice
        have hspk := span_take A x M k
        have hspn := hg.span
        have hjl : (Lib.join (textL ((x :: M.take k).map (·.1))) tSemi).length < 300 := by
          have h1 := join_span (x :: M.take k) (by simp)
          omega
        have hnl : (nodesL ((x :: M.take k).map (·.1))).length < 300 := by
          have h1 := nodes_textL ((x :: M.take k).map (·.1))
          omega
        have hyl : (textE y.1).length < 300 := by
          have h1 := span_mem hyP
          omega
        have hyn : (nodesE y.1).length < 300 := by
          have h1 := nodes_text y.1
          omega
        obtain ⟨E, hE⟩ : ∃ E, E = (x :: M.take k).map (·.1) := ⟨_, rfl⟩
        have hE1 : (x :: M.take (k + 1)).map (·.1) = E ++ [y.1] := by rw [hE, List.take_add_one, hy]; simp
        have hEne : E ≠ [] := by rw [hE]; simp
        have hEpos : PosL E := by
          rw [hE]
          exact PosL.of fun e he => by obtain ⟨p, hp, rfl⟩ := List.mem_map.1 he; exact (htells p (mem_take hp)).pos
        rw [← hE] at hnv hs hjl hnl
        have HE1 := Lib.hid hE1
        have HY2 := Lib.hid hy2
        have hfy : ∀ (j : Nat) u, (cells5 y)[j]? = some u → (flatP A ++ flatP (x :: M))[(A.length + 1 + k) * 5 + j]? = some u := fun j u hu => by
          have hj : j < 5 := by have := (List.getElem?_eq_some_iff.1 hu).1; simpa [cells5] using this
          rw [← flatP_append, flatP_getD (p := y) (by rw [List.getElem?_append_right (by omega), show A.length + 1 + k - A.length = k + 1 by omega]; simpa using hy) j hj, hu]
        have hs7 : Sat W wr (rowS gS oS cS (flatP A ++ flatP (x :: M)) ++ (cellsA zs (sCells E (.slice av nv cv)) 43 :: (rowE gE oE cE (vals A ++ vals (x :: M)) ++ (T2 ++ F)))) := hs.use (by intro x; simp only [cnt_append, cnt_cons, cnt_nil]; omega)
        have hoo : ∀ j, oB + k * 5 + j = oS + ((A.length + 1 + k) * 5 + j) := fun j => by omega
        have y0 : wr.cell? ⟨gS, oB + k * 5, none⟩ = some (.int .i64 (code0 y.1)) := by have h := (row_cell hs7 ((A.length + 1 + k) * 5 + 0) _ (hfy 0 _ rfl)).1; rw [← hoo] at h; exact h
        have y1 : wr.cell? ⟨gS, oB + k * 5 + 1, none⟩ = some (.slice ay ny cy) := by have h := (row_cell hs7 ((A.length + 1 + k) * 5 + 1) _ (hfy 1 _ rfl)).1; rw [← hoo, hy2] at h; exact h
        have y2 : wr.cell? ⟨gS, oB + k * 5 + 2, none⟩ = some (.int .i64 (stripeO (of1 y.1))) := by have h := (row_cell hs7 ((A.length + 1 + k) * 5 + 2) _ (hfy 2 _ rfl)).1; rw [← hoo] at h; exact h
        have y3 : wr.cell? ⟨gS, oB + k * 5 + 3, none⟩ = some (.bool (of1 y.1).isSome) := by have h := (row_cell hs7 ((A.length + 1 + k) * 5 + 3) _ (hfy 3 _ rfl)).1; rw [← hoo] at h; exact h
        have y4 : wr.cell? ⟨gS, oB + k * 5 + 4, none⟩ = some (str (textE y.1)) := by have h := (row_cell hs7 ((A.length + 1 + k) * 5 + 4) _ (hfy 4 _ rfl)).1; rw [← hoo] at h; exact h
        have hsn := sCells_snoc E y.1
        have hs0e : sCells E (.slice av nv cv) = #[.int .i64 ((codeL E).getD 0), .slice av nv cv, .int .i64 (stripeO (ofL E)), .bool (ofL E).isSome, str (Lib.join (textL E) tSemi)] := rfl
        rw [hs0e] at hs
        clear hs7 hfy hs0e hE hE1 hy hy2 hoB2 hoo hspk hyP
        generalize code0 y.1 = cy0 at *
        generalize stripeO (of1 y.1) = sty at *
        generalize (of1 y.1).isSome = isy at *
        generalize (codeL E).getD 0 = c at *
        generalize stripeO (ofL E) = st at *
        generalize (ofL E).isSome = is at *
        generalize Lib.join (textL E) tSemi = tx at *
        generalize textE y.1 = txy at *
        have HSN := Lib.hid hsn
        clear hsn
        go_upto_region 14 with fail
        go_cut [14] (fun pv wx => ∃ zx, pv = .pointer (some ⟨zx, 0, none⟩) ∧ Sat W wx (cellsA zx #[.int .i64 cy0, .slice ay ny cy, .int .i64 sty, .bool isy, str txy] 43 :: cellsA zs #[.int .i64 c, .slice av nv cv, .int .i64 st, .bool is, str tx] 43 :: (rowE gE oE cE (vals A ++ vals (x :: M)) ++ (rowS gS oS cS (flatP A ++ flatP (x :: M)) ++ (T2 ++ F)))))
        case first =>
          have hn := hs.newCells #[.int .i64 cy0, .slice ay ny cy, .int .i64 sty, .bool isy, str txy] 43
          go_wp2_with fail
          go_meet
          exact ⟨_, rfl, hn⟩
        case rest =>
        clear y0 y1 y2 y3 y4 hs
        obtain ⟨zx, rfl, hs⟩ := hcut
        have f0 : wc.cell? ⟨zs, 0, none⟩ = some (.int .i64 c) := hs.cell m1 0
        obtain ⟨c1, hc1⟩ : ∃ c1, c1 = if c = 0 then cy0 else c := ⟨_, rfl⟩
        have HC1 := Lib.hid hc1
        clear hc1
        go_upto_if 72 with fail
        go_cut [] (fun wx => Sat W wx (cellsA zx #[.int .i64 cy0, .slice ay ny cy, .int .i64 sty, .bool isy, str txy] 43 :: cellsA zs #[.int .i64 c1, .slice av nv cv, .int .i64 st, .bool is, str tx] 43 :: (rowE gE oE cE (vals A ++ vals (x :: M)) ++ (rowS gS oS cS (flatP A ++ flatP (x :: M)) ++ (T2 ++ F)))))
        case first =>
          have f1 : wc.frozen? ⟨zs, 0, none⟩ = false := hs.free m1 0
          have f2 : wc.cell? ⟨zx, 0, none⟩ = some (.int .i64 cy0) := hs.cell m0 0
          by_cases hc0 : c = 0
          · have h : Sat W (wc.setCell ⟨zs, 0, none⟩ (.int .i64 cy0)) (cellsA zs #[.int .i64 cy0, .slice av nv cv, .int .i64 st, .bool is, str tx] 43 :: cellsA zx #[.int .i64 cy0, .slice ay ny cy, .int .i64 sty, .bool isy, str txy] 43 :: (rowE gE oE cE (vals A ++ vals (x :: M)) ++ (rowS gS oS cS (flatP A ++ flatP (x :: M)) ++ (T2 ++ F)))) := Sat.setCell (Sat.use (M := cellsA zs #[.int .i64 c, .slice av nv cv, .int .i64 st, .bool is, str tx] 43 :: cellsA zx #[.int .i64 cy0, .slice ay ny cy, .int .i64 sty, .bool isy, str txy] 43 :: (rowE gE oE cE (vals A ++ vals (x :: M)) ++ (rowS gS oS cS (flatP A ++ flatP (x :: M)) ++ (T2 ++ F)))) hs (by intro x; simp only [cnt_append, cnt_cons, cnt_nil]; omega)) 0 (.int .i64 cy0)
            have hcc : c1 = cy0 := by rw [HC1.out, if_pos hc0]
            have HCC := Lib.hid hcc
            clear HC1 hcc
            subst hc0
            go_wp2_with fail
            go_meet
            rw [HCC.out]
            exact h.use (by intro x; simp only [cnt_append, cnt_cons, cnt_nil]; omega)
          · have hcc : c1 = c := by rw [HC1.out, if_neg hc0]
            have HCC := Lib.hid hcc
            clear HC1 hcc
            go_wp2_with fail
            go_meet
            rw [HCC.out]
            exact hs
        case rest =>
        clear f0 hs
        have hs : Sat W wc (cellsA zx #[.int .i64 cy0, .slice ay ny cy, .int .i64 sty, .bool isy, str txy] 43 :: cellsA zs #[.int .i64 c1, .slice av nv cv, .int .i64 st, .bool is, str tx] 43 :: (rowE gE oE cE (vals A ++ vals (x :: M)) ++ (rowS gS oS cS (flatP A ++ flatP (x :: M)) ++ (T2 ++ F)))) := hcut
        clear hcut
        obtain ⟨LL, hLL⟩ : ∃ LL, LL = cellsA zx #[.int .i64 cy0, .slice ay ny cy, .int .i64 sty, .bool isy, str txy] 43 :: cellsA zs #[.int .i64 c1, .slice av nv cv, .int .i64 st, .bool is, str tx] 43 :: (rowE gE oE cE (vals A ++ vals (x :: M)) ++ (rowS gS oS cS (flatP A ++ flatP (x :: M)) ++ (T2 ++ F))) := ⟨_, rfl⟩
        have hsL : Sat W wc LL := by rw [hLL]; exact hs
        have hcl1 : ∀ q : Of W LL, q.v.cell? ⟨zs, 1, none⟩ = some (.slice av nv cv) := fun q => by
          obtain ⟨q, h⟩ := q
          rw [hLL] at h
          exact h.cell m1 1
        have hcl2 : ∀ q : Of W LL, q.v.cell? ⟨zx, 1, none⟩ = some (.slice ay ny cy) := fun q => by
          obtain ⟨q, h⟩ := q
          rw [hLL] at h
          exact h.cell m0 1
        have HLL := Lib.hid hLL
        clear hLL hs
        go_upto_region 17 with fail
        go_cut [] (fun wx => ∃ a4 n4 c4 T3, (∀ z ∈ T2, z ∈ T3) ∧ NodesAt T3 (.slice a4 n4 c4) (nodesL E ++ nodesE y.1) ∧ Sat W wx (cellsA zx #[.int .i64 cy0, .slice ay ny cy, .int .i64 sty, .bool isy, str txy] 43 :: cellsA zs #[.int .i64 c1, .slice a4 n4 c4, .int .i64 st, .bool is, str tx] 43 :: (rowE gE oE cE (vals A ++ vals (x :: M)) ++ (rowS gS oS cS (flatP A ++ flatP (x :: M)) ++ (T3 ++ F)))))
        case first =>
          go_wp2_with fail
          refine wp_region_held1 [0, 3, 6, 8] [1, 2, 4, 5] [1, 4] [0, 3] [1, 2, 4, 5, 0, 3, 6, 7, 8] (Held W LL) (by kernel_rfl) (by kernel_rfl) ?_ ?_
          · exact Held.mk hsL.drew
          have hne0 : Nonempty (Of W LL) := ⟨⟨_, hsL⟩⟩
          repeat (first | (refine can_pu1 rfl rfl rfl rfl rfl rfl (fun K hK => ?_); go_big_quiet_op; refine hK _ ?_; clear hK K) | (refine can_st1 rfl rfl rfl rfl rfl rfl (fun K hK => ?_); go_big_quiet_op; refine hK _ ?_; clear hK K) | (refine can_early1 rfl rfl rfl rfl rfl (fun K hK => ?_); go_big_quiet_op; refine hK _ ?_; clear hK K) | (refine can_skip rfl rfl rfl ?_; simp only [Act.put, List.setIfInBounds_toArray, List.set_cons_zero, List.set_cons_succ]))
          refine can_actS rfl rfl rfl rfl (fun K hK => ?_)
          go_wp2_with fail
          have hsn0 : Sat W (wc.alloc (.cells #[] 3)).drew ([(wc.heap.size, rowP 3 0 (0 * 1) [])] ++ LL) := (hsL.new (.cells #[] 3) ⟨#[], rfl, by simp, by simp, by simp⟩).drew
          refine ⟨Held.mk hsn0.right, ?_⟩
          have hrn0 : RowA 3 1 (.slice (some ⟨wc.heap.size, 0, none⟩) 0 0) ([] : List Int).length (ints []) [(wc.heap.size, rowP 3 0 (0 * 1) [])] := ⟨rfl, .inr ⟨_, _, _, rfl, Nat.le_refl _, Nat.zero_le _, rfl⟩⟩
          have hTL2 : ∀ z ∈ T2, z ∈ LL := fun z hz => by
            rw [HLL.out]
            exact List.mem_cons_of_mem _ (List.mem_cons_of_mem _ (List.mem_append_right _ (List.mem_append_right _ (List.mem_append_left _ hz))))
          have hrd1 := reads_at hnv hsn0 (fun z hz => List.mem_append_right _ (hTL2 z hz))
          obtain ⟨n1, hn1⟩ : ∃ n1, n1 = nodesL E := ⟨_, rfl⟩
          obtain ⟨n2, hn2⟩ : ∃ n2, n2 = nodesE y.1 := ⟨_, rfl⟩
          have hny : NodesAt T2 (.slice ay ny cy) n2 := by rw [hn2, ← HY2.out]; exact hty.nodes.mono hTT
          rw [← hn1] at hrd1 hnl
          rw [← hn2] at hyn
          have HN1 := Lib.hid hn1
          have HN2 := Lib.hid hn2
          clear hn1 hn2
          refine can_actS rfl rfl rfl rfl (fun K hK => ?_)
          refine wp_append_int rfl [] n1 rfl rfl hrn0 hsn0 hrd1 (by simp <;> omega) (fun v3 w3 R3 hr3 hs3 => ?_)
          apply hK
          clear hK
          refine ⟨Held.mk hs3.right, ?_⟩
          simp only [Act.put, List.setIfInBounds_toArray, List.set_cons_zero, List.set_cons_succ]
          refine can_actF rfl rfl rfl rfl (fun K hK => ?_)
          have hrd2 := reads_at hny hs3 (fun z hz => List.mem_append_right _ (hTL2 z hz))
          refine wp_append_int rfl ([] ++ n1) n2 rfl rfl hr3 hs3 hrd2 (by simp <;> omega) (fun v5 w5 R5 hr5 hs5 => ?_)
          obtain ⟨n5, hn5⟩ : ∃ n5, n5 = [] ++ n1 ++ n2 := ⟨_, rfl⟩
          rw [← hn5] at hr5
          obtain ⟨a5, c5, rfl⟩ := Ca.RowA.slice hr5
          have HN5 := Lib.hid hn5
          clear hn5
          apply hK
          clear hK
          simp only [Act.put, List.setIfInBounds_toArray, List.set_cons_zero, List.set_cons_succ]
          repeat (first | (refine can_pu1 rfl rfl rfl rfl rfl rfl (fun K hK => ?_); go_big_quiet_op; refine hK _ ?_; clear hK K) | (refine can_st1 rfl rfl rfl rfl rfl rfl (fun K hK => ?_); go_big_quiet_op; refine hK _ ?_; clear hK K) | (refine can_early1 rfl rfl rfl rfl rfl (fun K hK => ?_); go_big_quiet_op; refine hK _ ?_; clear hK K) | (refine can_skip rfl rfl rfl ?_; simp only [Act.put, List.setIfInBounds_toArray, List.set_cons_zero, List.set_cons_succ]))
          refine can_actF rfl rfl rfl rfl (fun K hK => ?_)
          rw [HLL.out] at hs5
          have z0 : w5.cell? ⟨zs, 1, none⟩ = some (.slice av nv cv) := hs5.cell (List.mem_append_right _ m1) 1
          have z1 : w5.frozen? ⟨zs, 1, none⟩ = false := hs5.free (List.mem_append_right _ m1) 1
          go_wp2_with fail
          refine can_end1 ?_; (try simp only [Exit.then])
          go_wp2_with fail
          go_meet
          have h : Sat W (w5.setCell ⟨zs, 1, none⟩ (.slice a5 n5.length c5)) (cellsA zs #[.int .i64 c1, .slice a5 n5.length c5, .int .i64 st, .bool is, str tx] 43 :: cellsA zx #[.int .i64 cy0, .slice ay ny cy, .int .i64 sty, .bool isy, str txy] 43 :: (rowE gE oE cE (vals A ++ vals (x :: M)) ++ (rowS gS oS cS (flatP A ++ flatP (x :: M)) ++ ((R5 ++ T2) ++ F)))) := Sat.setCell (Sat.use (M := cellsA zs #[.int .i64 c1, .slice av nv cv, .int .i64 st, .bool is, str tx] 43 :: cellsA zx #[.int .i64 cy0, .slice ay ny cy, .int .i64 sty, .bool isy, str txy] 43 :: (rowE gE oE cE (vals A ++ vals (x :: M)) ++ (rowS gS oS cS (flatP A ++ flatP (x :: M)) ++ ((R5 ++ T2) ++ F)))) hs5 (by intro x; simp only [cnt_append, cnt_cons, cnt_nil]; omega)) 1 (.slice a5 n5.length c5)
          refine ⟨a5, n5.length, c5, R5 ++ T2, fun z hz => List.mem_append_right _ hz, ⟨R5, ?_, fun z hz => List.mem_append_left _ hz⟩, h.use (by intro x; simp only [cnt_append, cnt_cons, cnt_nil]; omega)⟩
          rw [← HN1.out, ← HN2.out, show n1 ++ n2 = n5 by rw [HN5.out]; simp]
          exact hr5
        case rest =>
        clear hcl1 hcl2 hsL
        obtain ⟨a4, n4, c4, T3, hT23, hn4, hs⟩ := hcut
        have f3 : wc.cell? ⟨zs, 3, none⟩ = some (.bool is) := hs.cell m1 3
        obtain ⟨st1, hst1⟩ : ∃ st1, st1 = if is then st else sty := ⟨_, rfl⟩
        obtain ⟨is1, his1⟩ : ∃ is1, is1 = (is || isy) := ⟨_, rfl⟩
        have HST1 := Lib.hid hst1
        have HIS1 := Lib.hid his1
        clear hst1 his1
        go_upto_if 86 with fail
        go_cut [] (fun wx => Sat W wx (cellsA zx #[.int .i64 cy0, .slice ay ny cy, .int .i64 sty, .bool isy, str txy] 43 :: cellsA zs #[.int .i64 c1, .slice a4 n4 c4, .int .i64 st1, .bool is1, str tx] 43 :: (rowE gE oE cE (vals A ++ vals (x :: M)) ++ (rowS gS oS cS (flatP A ++ flatP (x :: M)) ++ (T3 ++ F)))))
        case first =>
          cases is with
          | true =>
            have e1 : st1 = st := by rw [HST1.out]; rfl
            have e2 : is1 = true := by rw [HIS1.out]; rfl
            have HE2 := Lib.hid e1
            have HE3 := Lib.hid e2
            clear e1 e2 HST1 HIS1
            go_wp2_with fail
            go_meet
            rw [HE2.out, HE3.out]
            exact hs
          | false =>
            have e1 : st1 = sty := by rw [HST1.out]; rfl
            have e2 : is1 = isy := by rw [HIS1.out]; rfl
            have HE2 := Lib.hid e1
            have HE3 := Lib.hid e2
            clear e1 e2 HST1 HIS1
            have q1 : wc.cell? ⟨zx, 2, none⟩ = some (.int .i64 sty) := hs.cell m0 2
            have q2 : wc.cell? ⟨zx, 3, none⟩ = some (.bool isy) := hs.cell m0 3
            have q3 : wc.cell? ⟨zs, 2, none⟩ = some (.int .i64 st) := hs.cell m1 2
            have q4 : wc.frozen? ⟨zs, 2, none⟩ = false := hs.free m1 2
            have q5 : wc.frozen? ⟨zs, 3, none⟩ = false := hs.free m1 3
            have q6 : zx ≠ zs := Sat.ne hs
            have q7 : zs ≠ zx := fun h => q6 h.symm
            have h : Sat W ((wc.setCell ⟨zs, 2, none⟩ (.int .i64 sty)).setCell ⟨zs, 3, none⟩ (.bool isy)) (cellsA zs #[.int .i64 c1, .slice a4 n4 c4, .int .i64 sty, .bool isy, str tx] 43 :: cellsA zx #[.int .i64 cy0, .slice ay ny cy, .int .i64 sty, .bool isy, str txy] 43 :: (rowE gE oE cE (vals A ++ vals (x :: M)) ++ (rowS gS oS cS (flatP A ++ flatP (x :: M)) ++ (T3 ++ F)))) := Sat.setCell (Sat.setCell (Sat.use (M := cellsA zs #[.int .i64 c1, .slice a4 n4 c4, .int .i64 st, .bool false, str tx] 43 :: cellsA zx #[.int .i64 cy0, .slice ay ny cy, .int .i64 sty, .bool isy, str txy] 43 :: (rowE gE oE cE (vals A ++ vals (x :: M)) ++ (rowS gS oS cS (flatP A ++ flatP (x :: M)) ++ (T3 ++ F)))) hs (by intro x; simp only [cnt_append, cnt_cons, cnt_nil]; omega)) 2 (.int .i64 sty)) 3 (.bool isy)
            go_wp2_with fail
            go_meet
            rw [HE2.out, HE3.out]
            exact h.use (by intro x; simp only [cnt_append, cnt_cons, cnt_nil]; omega)
        case rest =>
        clear f3 hs
        have hs : Sat W wc (cellsA zx #[.int .i64 cy0, .slice ay ny cy, .int .i64 sty, .bool isy, str txy] 43 :: cellsA zs #[.int .i64 c1, .slice a4 n4 c4, .int .i64 st1, .bool is1, str tx] 43 :: (rowE gE oE cE (vals A ++ vals (x :: M)) ++ (rowS gS oS cS (flatP A ++ flatP (x :: M)) ++ (T3 ++ F)))) := hcut
        clear hcut
        have f4 : wc.cell? ⟨zs, 4, none⟩ = some (str tx) := hs.cell m1 4
        have f5 : wc.cell? ⟨zx, 4, none⟩ = some (str txy) := hs.cell m0 4
        have f6 : wc.frozen? ⟨zs, 4, none⟩ = false := hs.free m1 4
        have hfin : ∀ (k2 : Nat) (v2 : Value) (T4 : List Atom), k2 = k + 1 → (∀ z ∈ T3, z ∈ T4) → NodesAt T4 v2 (nodesL E ++ nodesE y.1) → ∀ w2 : World, Sat W w2 (cellsA zs #[.int .i64 c1, v2, .int .i64 st1, .bool is1, str (tx ++ tSemi ++ txy)] 43 :: (rowE gE oE cE (vals A ++ vals (x :: M)) ++ (rowS gS oS cS (flatP A ++ flatP (x :: M)) ++ (T4 ++ F)))) →
            NodesAt T4 v2 (nodesL ((x :: M.take k2).map (·.1))) ∧ Sat W w2 (cellsA zs (sCells ((x :: M.take k2).map (·.1)) v2) 43 :: (rowE gE oE cE (vals A ++ vals (x :: M)) ++ (rowS gS oS cS (flatP A ++ flatP (x :: M)) ++ (T4 ++ F)))) := by
          rintro k2 v2 T4 rfl _ hn w2 hw2
          rw [HE1.out, nodesL_snoc]
          refine ⟨hn, ?_⟩
          rw [HSN.out v2 hEne hEpos, ← HC1.out, ← HST1.out, ← HIS1.out]
          exact hw2
        go_wp2_with fail
        rw [show (({ data := tx.toArray } : ByteArray) ++ { data := #[59, 32] } ++ { data := txy.toArray }) = ⟨(tx ++ tSemi ++ txy).toArray⟩ by simp [tSemi, ba_app]]
        have h : Sat W (wc.setCell ⟨zs, 4, none⟩ (str (tx ++ tSemi ++ txy))) (cellsA zs #[.int .i64 c1, .slice a4 n4 c4, .int .i64 st1, .bool is1, str (tx ++ tSemi ++ txy)] 43 :: cellsA zx #[.int .i64 cy0, .slice ay ny cy, .int .i64 sty, .bool isy, str txy] 43 :: (rowE gE oE cE (vals A ++ vals (x :: M)) ++ (rowS gS oS cS (flatP A ++ flatP (x :: M)) ++ (T3 ++ F)))) := Sat.setCell (Sat.use (M := cellsA zs #[.int .i64 c1, .slice a4 n4 c4, .int .i64 st1, .bool is1, str tx] 43 :: cellsA zx #[.int .i64 cy0, .slice ay ny cy, .int .i64 sty, .bool isy, str txy] 43 :: (rowE gE oE cE (vals A ++ vals (x :: M)) ++ (rowS gS oS cS (flatP A ++ flatP (x :: M)) ++ (T3 ++ F)))) hs (by intro x; simp only [cnt_append, cnt_cons, cnt_nil]; omega)) 4 (str (tx ++ tSemi ++ txy))
        obtain ⟨q1, q2⟩ := hfin (k + 1) (.slice a4 n4 c4) T3 rfl (fun z hz => hz) hn4 _ (Sat.use h (by intro x; simp only [cnt_append, cnt_cons, cnt_nil]; omega))
        refine ⟨⟨k + 1, .slice a4 n4 c4, T3, by simp, by omega, fun z hz => hT23 z (hT12 z hz), q1, q2⟩, ?_⟩
        simp [intOf]
        omega
      · obtain rfl : k = M.length := by omega
        rw [List.take_length] at hnv hs
        obtain ⟨av, nv, cv, rfl⟩ := hnv.slice
        have hsA : Sat W wr (rowE gE oE A.length (vals A) ++ (cellsA zs (sCells ((x :: M).map (·.1)) (.slice av nv cv)) 43 :: (rowS gS oS cS (flatP A ++ flatP (x :: M)) ++ (T2 ++ F)))) := row_cut (ys := vals (x :: M)) (len := cE * 1) (Sat.use hs (by intro x; simp only [cnt_append, cnt_cons, cnt_nil]; omega)) (A.length * 1) (by omega) (by rw [vals_length]; omega)
        have hrA : RowA 27 1 (.slice (some ⟨gE, oE, none⟩) A.length A.length) A.length (vals A) (rowE gE oE A.length (vals A)) := ⟨by rw [vals_length]; omega, .inr ⟨gE, oE, A.length, rfl, Nat.le_refl _, by omega, rfl⟩⟩
        have hrS : RowA 43 5 (.slice (some ⟨gS, oS, none⟩) A.length A.length) A.length (flatP A) (rowS gS oS A.length (flatP A)) := ⟨by rw [flatP_length], .inr ⟨gS, oS, A.length, rfl, Nat.le_refl _, by omega, rfl⟩⟩
        have w1 : A.length ≤ cE := by omega
        have w2 : A.length ≤ cS := by omega
        have w3 : (A.length : Int) ≤ cE := by omega
        have w4 : (A.length : Int) ≤ cS := by omega
        clear hs
        go_wp2_with (at_builtin; refine wpList_plain rfl (fun K hK => ?_); refine wp_append_vals rfl A [(e', .slice av nv cv)] rfl rfl hrA (sat_new hsA) (reads_new1 wr _ _ _ (by simp [HVE.out])) (by simp <;> omega) (fun v6 w6 R6 hr6 hs6 => ?_); refine hK _ _ ?_; simp only [Act.put, List.setIfInBounds_toArray, List.set_cons_zero, List.set_cons_succ]; clear hK)
        have hsc : sCells ((x :: M).map (·.1)) (.slice av nv cv) = #[.int .i64 (code0 e'), .slice av nv cv, .int .i64 (stripeO (of1 e')), .bool (of1 e').isSome, str (textE e')] := by
          unfold sCells code0
          rw [hsum.code, hsum.of, hsum.text]
        rw [hsc] at hs6
        have z0 : w6.cell? ⟨zs, 0, none⟩ = some (.int .i64 (code0 e')) := hs6.cell (List.mem_append_right _ m1) 0
        have z1 : w6.cell? ⟨zs, 1, none⟩ = some (.slice av nv cv) := hs6.cell (List.mem_append_right _ m1) 1
        have z2 : w6.cell? ⟨zs, 2, none⟩ = some (.int .i64 (stripeO (of1 e'))) := hs6.cell (List.mem_append_right _ m1) 2
        have z3 : w6.cell? ⟨zs, 3, none⟩ = some (.bool (of1 e').isSome) := hs6.cell (List.mem_append_right _ m1) 3
        have z4 : w6.cell? ⟨zs, 4, none⟩ = some (str (textE e')) := hs6.cell (List.mem_append_right _ m1) 4
        have hsS : Sat W w6.drew (rowS gS oS A.length (flatP A) ++ (R6 ++ (T2 ++ F))) := (row_cut (ys := flatP (x :: M)) (len := cS * 5) (Sat.use hs6 (by intro x; simp only [cnt_append, cnt_cons, cnt_nil]; omega)) (A.length * 5) (by omega) (by rw [flatP_length]; omega)).drew
        clear hs6 hsc
        refine wp_region_one [5, 6] [0, 1, 2, 3] [0, 1, 2, 3] [] [0, 1, 2, 3, 4, 5, 6, 7] (by kernel_rfl) (by kernel_rfl) ?_
        repeat (first | (refine can_pu1 rfl rfl rfl rfl rfl rfl (fun K hK => ?_); go_big_quiet_op; refine hK _ ?_; clear hK K) | (refine can_st1 rfl rfl rfl rfl rfl rfl (fun K hK => ?_); go_big_quiet_op; refine hK _ ?_; clear hK K) | (refine can_early1 rfl rfl rfl rfl rfl (fun K hK => ?_); go_big_quiet_op; refine hK _ ?_; clear hK K) | (refine can_skip rfl rfl rfl ?_; simp only [Act.put, List.setIfInBounds_toArray, List.set_cons_zero, List.set_cons_succ]))
        refine can_act1 rfl rfl rfl (fun K hK => ?_)
        go_wp2_with fail
        refine can_act1 rfl rfl rfl (fun K hK => ?_)
        refine wp_append_said rfl A [(e', .slice av nv cv)] rfl rfl hrS (sat_new hsS) (reads_new5 _ _ _ _ rfl) (by simp [Value.oneCell']) (by simp <;> omega) (fun v8 w8 R8 hr8 hs8 => ?_)
        apply hK
        clear hK
        simp only [Act.put, List.setIfInBounds_toArray, List.set_cons_zero, List.set_cons_succ]
        repeat (first | (refine can_pu1 rfl rfl rfl rfl rfl rfl (fun K hK => ?_); go_big_quiet_op; refine hK _ ?_; clear hK K) | (refine can_st1 rfl rfl rfl rfl rfl rfl (fun K hK => ?_); go_big_quiet_op; refine hK _ ?_; clear hK K) | (refine can_early1 rfl rfl rfl rfl rfl (fun K hK => ?_); go_big_quiet_op; refine hK _ ?_; clear hK K) | (refine can_skip rfl rfl rfl ?_; simp only [Act.put, List.setIfInBounds_toArray, List.set_cons_zero, List.set_cons_succ]))
        refine can_end1 ?_; (try simp only [Exit.then])
        go_wp2_with fail
        refine hend _ _ v6 v8 (A ++ [(e', .slice av nv cv)]) R6 R8 (T2) ⟨rfl, rfl, rfl, rfl, rfl, rfl, rfl, by simp⟩ (hg.next hi2 hi1 (by simp <;> omega) ?_ ?_ hr6 hr8 (Sat.use hs8 (by intro x; simp only [cnt_append, cnt_cons, cnt_nil]; omega)))
        · have h1 := join_span (x :: M) (by simp)
          rw [span_append, span_append, span_one, hsum.text]
          simp only [List.map_cons] at h1 ⊢
          omega
        · intro p hp
          rcases List.mem_append.1 hp with hp | hp
          · exact (htells p (List.mem_append_left _ hp)).mono (fun z hz => hT12 z (hT1s z hz))
          · rw [List.mem_singleton.1 hp]
            exact ⟨hsum.inT.mono hT12, by rw [hsum.nodes]; exact hnv, hsum.digs, hsum.pos⟩
end Go.Proofs.YtoknokbbggnmjaaDoor.Ca
