
/-
  WireTries: the walk.
-/
import Derived.Test.YtekbbpfnkbanjaaGreatDoorWtB
namespace Go.Proofs.YtekbbpfnkbanjaaGreatDoor.Ch
set_option linter.unusedSimpArgs false
open Go Go.RowKit Go.Sl Go.BigFrame
set_option linter.unusedVariables false

theorem TryR.fit {k : Nat} {q : Rq} : ∀ (t : Nat) {x x' : Wr} {r : WR} {m : Nat}, TryR k q t x x' r → WrFit x m → WrFit x' (m + 2 * t)
  | 0, x, x', r, m, h, hf => by rw [h.1]; exact hf.mono (by omega)
  | t + 1, x, x', r, m, h, hf => by
    rcases h with ⟨_, rfl, _⟩ | ⟨_, _, _, rfl, _⟩ | ⟨_, _, _, y, ⟨h1, h2⟩ | ⟨boot, p, h1, rfl, _⟩⟩
    · exact hf.mono (by omega)
    · exact hf.burnt.mono (by omega)
    · exact (TryR.fit t h2 (h1.fit hf.burnt)).mono (by omega)
    · exact (h1.fit hf.burnt).mono (by omega)
theorem itsC_get {xs : List (It × Value)} : ∀ {i : Nat} {p : It} {v : Value}, xs[i]? = some (p, v) → ∀ f u, ([Value.int .i64 p.stripe, .int .i64 p.gen, v] : List Value)[f]? = some u → (itsC xs)[i * 3 + f]? = some u := by
  induction xs with
  | nil => intro i p v h; simp at h
  | cons x xs ih =>
    intro i p v h f u hu
    have hf : f < 3 := by have := (List.getElem?_eq_some_iff.1 hu).1; simpa using this
    cases i with
    | zero =>
      simp at h
      subst h
      rw [Nat.zero_mul, Nat.zero_add]
      simp only [itsC, List.map_cons, List.flatten_cons]
      rw [List.getElem?_append_left (by simpa using hf)]
      exact hu
    | succ i =>
      simp only [itsC, List.map_cons, List.flatten_cons]
      rw [List.getElem?_append_right (by simp; omega), show (i + 1) * 3 + f - [Value.int .i64 x.1.stripe, .int .i64 x.1.gen, x.2].length = i * 3 + f by simp; omega]
      exact ih (by simpa using h) f u hu
theorem live_mem {ss : List Sl5} {ys : List (It × Value)} {C : List Atom} {X : It} (h : LiveY ss ys C) (hx : hasI ss X) : X ∈ ys.map Prod.fst := by
  obtain ⟨zs, hp, _, hy, _⟩ := h
  obtain ⟨s, hs, hl, rfl⟩ := hx
  rw [hy]
  refine List.mem_map.2 ⟨s, hp.mem_iff.2 ?_, rfl⟩
  exact List.mem_filter.2 ⟨hs, hl⟩
theorem mem_take_snoc {ys : List (It × Value)} {j : Nat} {y : It × Value} {X : It} (h : ys[j]? = some y) : (X ∈ (ys.take (j + 1)).map Prod.fst) ↔ (X ∈ (ys.take j).map Prod.fst ∨ X = y.1) := by
  rw [take_snoc h, List.map_append, List.mem_append]
  simp

set_option maxRecDepth 100000 in
set_option maxHeartbeats 16000000 in
theorem tries_walk (v v2 : Value) (ds fs0 : List Int) (W : World) (hv : ∀ y, Below W.heap.size W y → Reads y v ds.length (intsC ds)) (hv2 : ∀ y, Below W.heap.size W y → Reads y v2 fs0.length (intsC fs0)) (hG : Ca.ErrT W) :
    Calls Tryz.prog 3 #[v, v2] W fun e w' => e = .returned (.bool true) ∧ Below W.heap.size W w' := by
  obtain ⟨a, c, rfl⟩ := reads_shape (hv W (Below.refl _ W))
  have hs0 := allOf_sat W
  have HB := Lib.hid (fun w' (h : Sat W w' (allOf W)) => below12 h)
  have HV := Lib.hid (fun y (h : Sat W y (allOf W)) => hv y (below12 h))
  have HV2 := Lib.hid (fun y (h : Sat W y (allOf W)) => hv2 y (below12 h))
  have HG := Lib.hid (fun y (h : Sat W y (allOf W)) => errT12 (below12 h) hG)
  obtain ⟨a2, c2, rfl⟩ := reads_shape (hv2 W (Below.refl _ W))
  clear hv hv2 hG
  generalize allOf W = aW at *
  have HN := Lib.hid (wnew_any W W aW hs0)
  clear hs0
  go_enter Tryz.func3, Tryz.ntmps3
  go_wp2_with fail
  refine HN.out.mono ?_; rintro r w1 ⟨b, ps, A, rfl, hpl, hall, hA, hs1⟩
  clear HN
  have HPL := Lib.hid hpl
  have HALL := Lib.hid hall
  clear hpl hall
  go_wp2_with fail
  refine (known12_any W _ _ hs1 (fun y hy => HG.out y hy.right)).mono ?_; rintro r w2 ⟨rfl, hs2⟩
  clear hs1
  go_wp2_with fail
  refine (hand_fates _ fs0 60 W _ _ hs2 (fun y hy => HV2.out y hy.right) (by omega)).mono ?_; rintro r w3 ⟨fv, fs, R, rfl, hfr, hfl, hs3⟩
  clear hs2
  have hcap : ∃ fa fc, fv = .slice fa fs.length fc ∧ fs.length ≤ fc := by
    rcases hfr.2 with ⟨rfl, h2, _⟩ | ⟨g, off, cap, rfl, h2, _, _⟩
    · exact ⟨none, 0, by rw [h2], by omega⟩
    · exact ⟨_, _, rfl, h2⟩
  obtain ⟨fa, fc, rfl, hfc⟩ := hcap
  have HFA := Lib.hid (wfates_any (b := b) (x := wr0 ps) fs fa fc hA (Sat.use (M := A ++ (R ++ aW)) hs3 (by intro x; simp only [cnt_append, cnt_cons, cnt_nil]; omega)) (fun y hy => hfr.reads hy) hfc (by simp only [wr0, List.length_nil]; omega))
  have HFL := Lib.hid (show fs.length ≤ 1000 by omega)
  clear hs3 hA hfr hfl hfc
  go_wp2_with fail
  refine HFA.out.mono ?_; rintro r w4 ⟨A4, rfl, hA4, hs4⟩
  clear HFA
  have HS0 := Lib.hid (tall_start HPL.out HALL.out ([] ++ fs))
  have HF0 := Lib.hid (fit0 HALL.out ([] ++ fs) (by simpa using HFL.out))
  go_wp2_with fail
  go_loopw [6] (fun iv wr => ∃ (i : Nat) (x : Wr) (A : List Atom), iv = .int .i64 i ∧ i ≤ 15 ∧ TAll x i ∧ WrFit x (6 * i) ∧ WrA b x A ∧ Sat W wr (A ++ aW)) (fun iv _ => (15 - (intOf iv).toNat))
  case atStart => exact ⟨0, _, A4, rfl, by omega, HS0.out, HF0.out, hA4, hs4.use (by intro x; simp only [cnt_append, cnt_cons, cnt_nil]; omega)⟩
  case round =>
    clear hs4 hA4 HS0 HF0
    obtain ⟨i, x, A, rfl, hi, hta, hfit, hA, hs⟩ := hrel
    have HTA := Lib.hid hta
    have HFIT := Lib.hid hfit
    clear hta hfit
    have i0 : (0 : Int) ≤ i := by omega
    go_upto_region 6 with fail
    go_cut [34] (fun tv wx => tv = .bool (decide (i < ds.length ∧ i < 15)) ∧ Sat W wx (A ++ aW))
    case first =>
      by_cases hin : i < ds.length
      · have i1 : (i : Int) < ds.length := by omega
        by_cases hi7 : i < 15
        · have i2 : (i : Int) < 15 := by omega
          have hd : decide (i < ds.length ∧ i < 15) = true := decide_eq_true ⟨hin, hi7⟩
          go_wp2_with fail
          go_meet
          exact ⟨by rw [hd], hs⟩
        · have i2 : ¬ (i : Int) < 15 := by omega
          have hd : decide (i < ds.length ∧ i < 15) = false := decide_eq_false (fun h => hi7 h.2)
          go_wp2_with fail
          go_meet
          exact ⟨by rw [hd], hs⟩
      · have i1 : ¬ (i : Int) < ds.length := by omega
        have hd : decide (i < ds.length ∧ i < 15) = false := decide_eq_false (fun h => hin h.1)
        go_wp2_with fail
        go_meet
        exact ⟨by rw [hd], hs⟩
    case rest =>
    clear hs
    obtain ⟨rfl, hs⟩ := hcut
    by_cases hgo : i < ds.length ∧ i < 15
    case neg =>
      rw [decide_eq_false hgo]
      go_wp2_with fail
      go_ret
      exact ⟨rfl, HB.out _ hs.right⟩
    case pos =>
    rw [decide_eq_true hgo]
    obtain ⟨hin, hi15⟩ := hgo
    have i1 : (i : Int) < ds.length := by omega
    have i2 : (i : Int) < 15 := by omega
    obtain ⟨d, hd⟩ : ∃ d, ds[i]? = some d := ⟨_, List.getElem?_eq_getElem hin⟩
    rcases HV.out wc hs.right with ⟨_, hz, _⟩ | ⟨a', c', e1, hc⟩
    · omega
    cases e1
    have d0 : wc.cell? (a'.add i) = some (.int .i64 d) := hc i _ (intsC_get hd)
    obtain ⟨p1, p2⟩ := handPick_bounds d 8 (by omega)
    obtain ⟨k, hk⟩ : ∃ k : Nat, handPick d 8 = k := ⟨(handPick d 8).toNat, by omega⟩
    have HPK := Lib.hid (hand_pick d 8 wc (by omega) (by omega))
    have HK := Lib.hid hk
    have hk8 : k < 8 := by omega
    have s0 := HFIT.out.s0
    have s1 : x.sent ≤ 100 := by have := HFIT.out.s1; omega
    have HS := Lib.hid hs
    clear hc hd hk p1 p2 hs
    go_wp2_with fail
    refine HPK.out.mono ?_; rintro r wq ⟨rfl, rfl⟩
    rw [HK.out]
    go_wp2_with fail
    refine (wsent_any hA HS.out).mono ?_; rintro r wq ⟨rfl, rfl⟩
    go_wp2_with fail
    refine (hand_intent i i d W _ _ HS.out).mono ?_; rintro r w5 ⟨xa, xc, RX, rfl, hrx, hs5⟩
    have HXR := Lib.hid (handI_right i i d)
    obtain ⟨X, hX⟩ : ∃ X, X = handI i i d := ⟨_, rfl⟩
    rw [← hX] at HXR
    obtain ⟨D, hD⟩ : ∃ D, D = bytesOf d 128 := ⟨_, rfl⟩
    have HDL := Lib.hid (show D.length = 128 by rw [hD]; exact bytesOf_length _ _)
    obtain ⟨sx, hsx⟩ : ∃ s, s = handPick i 40 := ⟨_, rfl⟩
    obtain ⟨gx, hgx⟩ : ∃ s, s = 1 + handPick i 9 := ⟨_, rfl⟩
    have hXe : X = ⟨sx, gx, D⟩ := by rw [hX, hsx, hgx, hD]; rfl
    rw [← hD] at hrx
    rw [← hsx, ← hgx]
    clear hX hD hsx hgx d0 HPK
    subst hXe
    have hqok : reqOk (logq ⟨sx, gx, D⟩) := by
      obtain ⟨q1, q2, q3, q4, q5⟩ := HXR.out
      simp only at q1 q2 q3 q4 q5
      refine ⟨by show (1 : Int) ≤ 3; decide, by show (3 : Int) ≤ 6; decide, q1, by show sx ≤ 65535; omega, by show 0 ≤ gx; omega, q4, by show (0 : Int) ≤ 0; decide, by show (0 : Int) ≤ 255; decide, by show D.length ≤ 128; omega⟩
    have hs6 := hs5.newCells #[.int .i64 sx, .int .i64 gx, .slice xa 128 xc] 32
    have hs7 := Sat.use (M := A ++ (RX ++ (cellsA w5.heap.size #[.int .i64 sx, .int .i64 gx, .slice xa 128 xc] 32 :: aW))) hs6 (by intro x; simp only [cnt_append, cnt_cons, cnt_nil]; omega)
    have hcall := wcall_any (6 * i) b k x A (logq ⟨sx, gx, D⟩) xa xc W _ _ hA hs7 hk8 hqok (fun y hy => by
      show Reads y (.slice xa D.length xc) D.length (bts D)
      have h := hrx.reads hy
      rw [HDL.out]
      exact h) HFIT.out (by omega)
    unfold rqV logq at hcall
    simp only at hcall
    rw [HDL.out] at hcall
    have HCALL := Lib.hid hcall
    have HRX := Lib.hid hrx
    clear hcall hs5 hs6 hs7 hrx hqok
    go_wp2_with fail
    refine HCALL.out.mono ?_; rintro r w6 ⟨x', rr, rv, ev, A3, R3, rfl, hT, hR, hA3, hs8⟩
    clear HCALL hA HS
    obtain ⟨hok, hres⟩ := tries_law HXR.out (show i ≤ 14 by omega) hk8 3 (HTA.out.ok k _) hT
    have HFX := Lib.hid ((TryR.fit 3 hT HFIT.out).mono (show 6 * i + 2 * 3 ≤ 6 * (i + 1) by omega))
    have HNX := Lib.hid hok.next
    have hlen := hok.len
    obtain ⟨⟨nb, nd⟩, hnk⟩ : ∃ p, x'.ns[k]? = some p := ⟨_, List.getElem?_eq_getElem (by omega)⟩
    have HNK := Lib.hid hnk
    have HRES := Lib.hid hres
    have s2 := HFX.out.s0
    have s3 : x'.sent ≤ 100 := by have := HFX.out.s1; omega
    obtain ⟨cd, bt, pa, pn, pc, ia, im, ic, rfl⟩ : ∃ cd bt pa pn pc ia im ic, rv = .agg #[.int .i64 cd, .int .i64 bt, .slice pa pn pc, .slice ia im ic] := by
      cases rr with
      | ok boot p =>
        obtain ⟨_, _, pv, iv, rfl, hra⟩ := hR
        obtain ⟨pa, pn, pc, ia, im, ic, rfl, rfl⟩ := hra.shape
        exact ⟨_, _, _, _, _, _, _, _, rfl⟩
      | err c => exact ⟨0, 0, none, 0, 0, none, 0, 0, hR.1⟩
    have HR := Lib.hid hR
    clear hT hok hres hlen hnk hR
    generalize w5.heap.size = z at *
    have hs9 := hs8.alloc (.cells #[.int .i64 cd, .int .i64 bt, .slice pa pn pc, .slice ia im ic] 38)
    clear hs8
    go_upto_region 12 with fail
    refine with_sat hs9 ?_
    clear hs9
    intro w7 hs9
    have HS9 := Lib.hid hs9
    obtain ⟨br, hring, hlive⟩ := wlive_any hA3 hs9 HNK.out (HFX.out.nodes _ (List.mem_of_getElem? HNK.out))
    have HRING := Lib.hid hring
    have HLIVE := Lib.hid hlive
    clear hs9 hring hlive
    go_wp2_with fail
    refine (wsent_any hA3 HS9.out).mono ?_; rintro r wq ⟨rfl, rfl⟩
    go_wp2_with fail
    refine (wnode_in hA3 HS9.out HNK.out).mono ?_; rintro r wq ⟨rfl, rfl⟩
    go_wp2_with fail
    refine HRING.out.mono ?_; rintro r wq ⟨rfl, rfl⟩
    go_wp2_with fail
    refine HLIVE.out.mono ?_; rintro r w8 ⟨lv, ys, R8, C8, rfl, hr8, hly, hs10⟩
    clear HRING HLIVE HS9
    have HLY := Lib.hid hly
    have HIT := Lib.hid (show ItsIn C8 ys from by obtain ⟨_, _, _, _, h⟩ := hly; exact h)
    obtain ⟨N, hN⟩ : ∃ N, N = ys.length := ⟨_, rfl⟩
    have HNN := Lib.hid hN
    have HR8 := Lib.hid hr8
    rw [← hN] at hr8
    obtain ⟨la, lc, rfl⟩ := Ch.RowA.slice hr8
    obtain ⟨LL, hLL⟩ : ∃ LL, LL = cellsA z #[.int .i64 sx, .int .i64 gx, .slice xa 128 xc] 32 :: (A3 ++ (R8 ++ (C8 ++ (R3 ++ (RX ++ aW))))) := ⟨_, rfl⟩
    have hs11 := Sat.use (M := LL) hs10 (by rw [hLL]; intro y; simp only [cnt_append, cnt_cons, cnt_nil]; omega)
    have HLL := Lib.hid hLL
    have hNb : N < 1000000 := by
      obtain ⟨zs, hp, _, hy, _⟩ := HLY.out
      have h1 := congrArg List.length hy
      rw [List.length_map, List.length_map, hp.length_eq] at h1
      have h2 : (liveS nd.g.slots).length ≤ nd.g.slots.length := List.length_filter_le _ _
      have h3 := (HFX.out.nodes _ (List.mem_of_getElem? HNK.out)).slen
      simp only at h3
      omega
    clear hs10 hly hr8 hN hLL
    go_wp2_with fail
    go_loopw [74, 13] (fun jv bv wr => ∃ (j : Nat), jv = .int .i64 j ∧ j ≤ N ∧ bv = .bool (decide ((⟨sx, gx, D⟩ : It) ∈ (ys.take j).map Prod.fst)) ∧ Sat W wr LL) (fun jv _ _ => (N - (intOf jv).toNat))
    case atStart => exact ⟨0, rfl, Nat.zero_le _, by rw [decide_eq_false]; simp, hs11⟩
    case round =>
      clear hs11
      obtain ⟨j, rfl, hj, rfl, hs⟩ := hrel
      have j0 : (0 : Int) ≤ j := by omega
      by_cases hjn : j < N
      case pos =>
        have j1 : (j : Int) < N := by omega
        have j2 : (j : Int) < 1000000 := by omega
        obtain ⟨⟨⟨ys1, yg, yd⟩, yv⟩, hy⟩ : ∃ y, ys[j]? = some y := ⟨_, List.getElem?_eq_getElem (by have := HNN.out; omega)⟩
        have hri := HIT.out _ (List.mem_of_getElem? hy)
        simp only at hri
        obtain ⟨ya, yc, rfl⟩ := hri.shape
        obtain ⟨gl, ol, kl, he, _, _, hRR⟩ := Ch.RowA.some_of HR8.out (by have := HNN.out; omega)
        obtain ⟨rfl, rfl⟩ : la = some ⟨gl, ol, none⟩ ∧ lc = kl := by cases he; exact ⟨rfl, rfl⟩
        have hsr := Sat.use (M := R8 ++ (cellsA z #[.int .i64 sx, .int .i64 gx, .slice xa 128 xc] 32 :: (A3 ++ (C8 ++ (R3 ++ (RX ++ aW)))))) hs (by rw [HLL.out]; intro y; simp only [cnt_append, cnt_cons, cnt_nil]; omega)
        have hc := fun f u (hu : ([Value.int .i64 ys1, .int .i64 yg, .slice ya yd.length yc] : List Value)[f]? = some u) => (HR8.out.cells (g := gl) (off := ol) (c := lc) hsr (by rw [HNN.out]) (j * 3 + f) (List.getElem?_eq_some_iff.1 (itsC_get hy f u hu)).1).1.trans (itsC_get hy f u hu)
        have c0 : wr.cell? ⟨gl, ol + j * 3, none⟩ = some (.int .i64 ys1) := hc 0 _ rfl
        have c1 : wr.cell? ⟨gl, ol + j * 3 + 1, none⟩ = some (.int .i64 yg) := by rw [Nat.add_assoc]; exact hc 1 _ rfl
        have c2 : wr.cell? ⟨gl, ol + j * 3 + 2, none⟩ = some (.slice ya yd.length yc) := by rw [Nat.add_assoc]; exact hc 2 _ rfl
        have e0 : wr.cell? ⟨z, 0, none⟩ = some (.int .i64 sx) := hsr.right.cell m0 0
        have e1 : wr.cell? ⟨z, 1, none⟩ = some (.int .i64 gx) := hsr.right.cell m0 1
        have e2 : wr.cell? ⟨z, 2, none⟩ = some (.slice xa 128 xc) := hsr.right.cell m0 2
        have hzl : z < wr.heap.size := hsr.right.lt m0
        have hsn := hs.alloc (.cells #[.int .i64 ys1, .int .i64 yg, .slice ya yd.length yc] 32)
        have HMT := Lib.hid (mem_take_snoc (X := ⟨sx, gx, D⟩) hy)
        have hsm := ref_sameI ⟨sx, gx, D⟩ ⟨ys1, yg, yd⟩ (.slice xa 128 xc) (.slice ya yd.length yc) W _ LL hsn (fun y hy => by
          have h := HRX.out.reads (Sat.use (M := RX ++ aW) hy (by rw [HLL.out]; intro y; simp only [cnt_append, cnt_cons, cnt_nil]; omega))
          show Reads y _ D.length (bts D)
          rw [HDL.out]
          exact h) (fun y hy => hri.reads hy (fun x hx => by rw [HLL.out]; exact .tail _ (List.mem_append_right _ (List.mem_append_right _ (List.mem_append_left _ hx)))))
        unfold itV at hsm
        simp only at hsm
        generalize hbb : decide ((⟨sx, gx, D⟩ : It) = ⟨ys1, yg, yd⟩) = bb at hsm
        have HBB := Lib.hid hbb
        have HSM := Lib.hid hsm
        clear hc hsr hri he hRR hy hs hsm hbb
        by_cases hm : (⟨sx, gx, D⟩ : It) ∈ (ys.take j).map Prod.fst
        · rw [decide_eq_true hm]
          have HM := Lib.hid (HMT.out.2 (.inl hm))
          clear hm
          go_wp2_with fail
          refine ⟨⟨j + 1, by simp, by omega, by rw [decide_eq_true HM.out], hsn⟩, ?_⟩
          simp [intOf]
          omega
        · rw [decide_eq_false hm]
          have HM := Lib.hid hm
          clear hm
          go_wp2_with fail
          refine HSM.out.mono ?_; rintro r w9 ⟨rfl, hs9⟩
          clear HSM hsn
          go_wp2_with fail
          refine ⟨⟨j + 1, by simp, by omega, ?_, hs9⟩, ?_⟩
          · congr 1
            rw [← HBB.out, decide_eq_decide, HMT.out]
            exact ⟨.inr, fun h => h.resolve_left HM.out⟩
          · simp [intOf]
            omega
      case neg =>
        obtain rfl : j = N := by omega
        have hall : (ys.take j).map Prod.fst = ys.map Prod.fst := by rw [List.take_of_length_le (by rw [HNN.out]; exact Nat.le_refl _)]
        rw [hall]
        have hsz := Sat.use (M := A3 ++ aW) hs (by rw [HLL.out]; intro y; simp only [cnt_append, cnt_cons, cnt_nil]; omega)
        have hsw := Sat.use (M := R3 ++ (A3 ++ aW)) hs (by rw [HLL.out]; intro y; simp only [cnt_append, cnt_cons, cnt_nil]; omega)
        have HSZ := Lib.hid hsz
        have HSW := Lib.hid hsw
        clear hall hs hsz hsw j0 hjn
        obtain ⟨tr, htr⟩ : ∃ tr, tr = x'.sent - x.sent := ⟨_, rfl⟩
        rw [← htr]
        have HTR := Lib.hid htr
        cases rr with
        | ok boot p =>
          obtain ⟨_, rfl, _⟩ := HR.out
          rcases HRES.out with ⟨_, h, _⟩ | ⟨_, _, _, h1, h2, b', n', hn', hhas⟩
          · cases h
          have hmem : (⟨sx, gx, D⟩ : It) ∈ ys.map Prod.fst := live_mem HLY.out (by rw [HNK.out] at hn'; cases hn'; exact hhas)
          rw [decide_eq_true hmem]
          have t1 : 1 ≤ tr := by omega
          have t2 : tr ≤ 3 := by omega
          clear h1 h2 hn' hhas hmem htr
          go_wp2_with fail
          refine ⟨⟨i + 1, x', A3, by simp, by omega, HNX.out, HFX.out, hA3, HSZ.out⟩, ?_⟩
          simp [intOf]
          omega
        | err c =>
          obtain ⟨_, be, rfl, rfl⟩ := HR.out
          rcases HRES.out with ⟨_, h, rfl, h1⟩ | ⟨_, _, h, _⟩
          case inr => cases h
          obtain rfl : c = 5 := by injection h
          have t1 : tr = 3 := by omega
          subst t1
          clear h htr h1
          have u1 := Ca.val_nil (.on be k (.code 5))
          have u2 := Ca.guard_nil (.on be k (.code 5))
          have u3 := Ca.neq_val (.on be k (.code 5))
          have u4 := Ca.guardn_nil (.on be k (.code 5))
          go_wp2_with fail
          refine (code_on be k 5 W _ _ (HG.out _ HSW.out.tail.right.right) HSW.out).mono ?_; rintro r w10 ⟨rfl, hsq⟩
          clear HSZ
          have HSZ := Lib.hid (Sat.tail hsq)
          clear hsq
          go_wp2_with fail
          refine ⟨⟨i + 1, x', A3, by simp, by omega, HNX.out, HFX.out, hA3, HSZ.out⟩, ?_⟩
          simp [intOf]
          omega
theorem tries_row (v : Value) (ds : List Int) (v2 : Value) (fs0 : List Int) (W : World) (hv : ∀ y, Below W.heap.size W y → Reads y v ds.length (intsC ds)) (_ : ds.length ≤ maxLen) (hv2 : ∀ y, Below W.heap.size W y → Reads y v2 fs0.length (intsC fs0)) (_ : fs0.length ≤ maxLen) (hG : Ca.ErrT W) :
    Calls Tryz.prog 3 #[v, v2] W fun e w' => e = .returned (.bool true) ∧ Below W.heap.size W w' := tries_walk v v2 ds fs0 W hv hv2 hG
end Go.Proofs.YtekbbpfnkbanjaaGreatDoor.Ch
