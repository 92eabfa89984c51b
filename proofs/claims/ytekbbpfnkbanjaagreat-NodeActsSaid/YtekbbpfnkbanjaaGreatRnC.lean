
/-
  The document's ring in memory; OpenRing.
-/
import Derived.Test.YtekbbpfnkbanjaaGreatRnB
import Derived.Test.YtekbbpfnkbanjaaGreatMP
import Derived.Test.YtekbbpfnkbanjaaGreatNkA
namespace Go.Proofs.YtekbbpfnkbanjaaGreat.Ch
open Go Go.RowKit Go.Sl Go.BigFrame
set_option linter.unusedVariables false
set_option linter.unusedSimpArgs false

def rslC (s : Sl5) (v : Value) : List Value := [.int .i64 s.num, .int .i64 s.i.stripe, .int .i64 s.i.gen, v]
def rslotsC (xs : List (Sl5 × Value)) : List Value := (xs.map fun x => rslC x.1 x.2).flatten
theorem rslotsC_length (xs : List (Sl5 × Value)) : (rslotsC xs).length = xs.length * 4 := by
  induction xs with
  | nil => rfl
  | cons x xs ih =>
    simp only [rslotsC, List.map_cons, List.flatten_cons, List.length_append, List.length_cons] at *
    rw [ih]
    simp [rslC]
    omega
theorem rslotsC_get {xs : List (Sl5 × Value)} : ∀ {i : Nat} {p : Sl5} {v : Value}, xs[i]? = some (p, v) → ∀ f u, (rslC p v)[f]? = some u → (rslotsC xs)[i * 4 + f]? = some u := by
  induction xs with
  | nil => intro i p v h; simp at h
  | cons x xs ih =>
    intro i p v h f u hu
    have hc : rslotsC (x :: xs) = rslC x.1 x.2 ++ rslotsC xs := rfl
    have hf : f < 4 := (List.getElem?_eq_some_iff.1 hu).1
    rw [hc]
    cases i with
    | zero =>
      simp only [List.getElem?_cons_zero, Option.some.injEq] at h
      rw [h, Nat.zero_mul, Nat.zero_add, List.getElem?_append_left (by exact hf)]
      exact hu
    | succ i =>
      have h2 : xs[i]? = some (p, v) := by simpa using h
      rw [List.getElem?_append_right (by show 4 ≤ _; omega)]
      have := ih h2 f u hu
      rw [show (i + 1) * 4 + f - (rslC x.1 x.2).length = i * 4 + f by show (i + 1) * 4 + f - 4 = _; omega]
      exact this
theorem rslotsC_set {xs : List (Sl5 × Value)} : ∀ {i : Nat} (p : Sl5) (v : Value), i < xs.length → ((((rslotsC xs).set (i * 4) (.int .i64 p.num)).set (i * 4 + 1) (.int .i64 p.i.stripe)).set (i * 4 + 2) (.int .i64 p.i.gen)).set (i * 4 + 3) v = rslotsC (xs.set i (p, v)) := by
  induction xs with
  | nil => intro i p v h; simp at h
  | cons x xs ih =>
    intro i p v h
    obtain ⟨⟨s, g, ⟨ix, ig, d⟩⟩, u⟩ := x
    have hc : ∀ (p : Sl5) (v : Value) (ys : List (Sl5 × Value)), rslotsC ((p, v) :: ys) = .int .i64 p.num :: .int .i64 p.i.stripe :: .int .i64 p.i.gen :: v :: rslotsC ys := fun p v ys => rfl
    cases i with
    | zero =>
      rfl
    | succ i =>
      have h2 := ih p v (by simpa using h)
      rw [hc, List.set_cons_succ, hc, ← h2]
      have e0 : (i + 1) * 4 = i * 4 + 4 := by omega
      rw [e0]
      rfl

/-- The ring's cells. -/
def rringC (bp : Nat) (xs : List (Sl5 × Value)) (nx : Int) : Array Value := (.pointer (some ⟨bp, 0, none⟩) :: (rslotsC xs ++ [.int .i64 nx])).toArray
theorem rring_get {bp : Nat} {xs : List (Sl5 × Value)} {nx : Int} {i : Nat} {p : Sl5} {v : Value} (h : xs[i]? = some (p, v)) (f : Nat) (u : Value) (hu : (rslC p v)[f]? = some u) : (rringC bp xs nx)[1 + i * 4 + f]? = some u := by
  have h1 := rslotsC_get h f u hu
  have h2 := (List.getElem?_eq_some_iff.1 h1).1
  unfold rringC
  rw [List.getElem?_toArray, show 1 + i * 4 + f = (i * 4 + f) + 1 by omega, List.getElem?_cons_succ, List.getElem?_append_left h2]
  exact h1
theorem rring_next {bp : Nat} {xs : List (Sl5 × Value)} {nx : Int} (h : xs.length = 16) : (rringC bp xs nx)[65]? = some (.int .i64 nx) := by
  unfold rringC
  rw [List.getElem?_toArray, List.getElem?_cons_succ, List.getElem?_append_right (by rw [rslotsC_length, h]; decide), rslotsC_length, h]
  rfl
theorem rring_set {bp : Nat} {xs : List (Sl5 × Value)} {nx : Int} {i : Nat} (p : Sl5) (v : Value) (h : i < xs.length) :
    ((((rringC bp xs nx).setIfInBounds (1 + i * 4) (.int .i64 p.num)).setIfInBounds (1 + i * 4 + 1) (.int .i64 p.i.stripe)).setIfInBounds (1 + i * 4 + 2) (.int .i64 p.i.gen)).setIfInBounds (1 + i * 4 + 3) v = rringC bp (xs.set i (p, v)) nx := by
  have hl := rslotsC_length xs
  unfold rringC
  simp only [List.setIfInBounds_toArray]
  rw [show 1 + i * 4 = i * 4 + 1 by omega, show i * 4 + 1 + 1 = (i * 4 + 1) + 1 by omega, show i * 4 + 1 + 2 = (i * 4 + 2) + 1 by omega, show i * 4 + 1 + 3 = (i * 4 + 3) + 1 by omega]
  simp only [List.set_cons_succ]
  rw [List.set_append_left (i * 4) _ (by omega), List.set_append_left (i * 4 + 1) _ (by rw [List.length_set]; omega), List.set_append_left (i * 4 + 2) _ (by rw [List.length_set, List.length_set]; omega), List.set_append_left (i * 4 + 3) _ (by rw [List.length_set, List.length_set, List.length_set]; omega), rslotsC_set p v h]
theorem rring_setn {bp : Nat} {xs : List (Sl5 × Value)} {nx : Int} (n' : Int) (h : xs.length = 16) : (rringC bp xs nx).setIfInBounds 65 (.int .i64 n') = rringC bp xs n' := by
  unfold rringC
  rw [List.setIfInBounds_toArray, List.set_cons_succ, List.set_append_right _ _ (by rw [rslotsC_length, h]; decide), rslotsC_length, h]
  rfl
def RrA (b bp : Nat) (g : Rg) (A : List Atom) : Prop := ∃ xs B, xs.map Prod.fst = g.slots ∧ RowsIn B xs ∧ A = cellsA b (rringC bp xs g.next) 96 :: B
theorem rd_read (l : List UInt8) : readI l = if (rdI l).2.2 = true ∧ 1 ≤ (rdI l).1 then ⟨true, (rdI l).1, (rdI l).2.1⟩ else sl0 := by
  unfold readI rdI
  by_cases h : (openB l).2.2 = 0 ∧ (openB l).1 = 2 ∧ (openB l).2.1.length = 141
  · rw [if_pos h, if_pos h]
    simp only
    by_cases h2 : 0 < numB ((openB l).2.1.take 6) ∧ rightI (itOf (openB l).2.1)
    · rw [if_pos h2, if_pos ⟨decide_eq_true h2.2, by omega⟩]
    · rw [if_neg h2, if_neg (fun h3 => h2 ⟨by omega, of_decide_eq_true h3.1⟩)]
  · rw [if_neg h, if_neg h]
    rfl
theorem opSl_rest (q : Pt) : ∀ (k j : Nat), k ≤ j → j < 16 → (opSl q k)[j]? = some sl0
  | 0, j, _, hj => by rw [opSl, List.getElem?_replicate, if_pos hj]
  | k + 1, j, hk, hj => by
    rw [opSl, List.getElem?_set_ne (by omega)]
    exact opSl_rest q k j (by omega) hj
theorem rdI_num (l : List UInt8) : (rdI l).1 < 281474976710656 ∧ 0 ≤ (rdI l).1 := by
  unfold rdI
  split
  · obtain ⟨h1, h2⟩ := numB_bounds ((openB l).2.1.take 6) 6 (by simp; omega)
    exact ⟨by simpa using h2, h1⟩
  · exact ⟨by decide, Int.le_refl _⟩

set_option maxRecDepth 100000 in
set_option maxHeartbeats 8000000 in
theorem ref_open_ring (bp : Nat) (q : Pt) (r : Rt) (A : List Atom) (W w : World) (L : List Atom) (hq : RtA bp r A) (ha : Alike q r) (hs : Sat W w (A ++ L)) (hn : q.now.length = 96) (hl : ∀ l ∈ q.now, l.length < 1000000) (hpl : r.pend.length < 900000) :
    Calls Tryz.prog 25 #[.pointer (some ⟨bp, 0, none⟩)] w fun e w' => ∃ b A', e = .returned (.pointer (some ⟨b, 0, none⟩)) ∧ RrA b bp (openRg q) A' ∧ Sat W w' (A' ++ (A ++ L)) := by
  have hs1 := hs.newCells (rringC bp (List.replicate 16 (sl0, .slice none 0 0)) 1) 96
  have HQ := Lib.hid hq
  have HN := Lib.hid hn
  have HL := Lib.hid hl
  have HPL := Lib.hid hpl
  have HA := Lib.hid ha.now
  clear hs hq hn hl hpl ha
  go_enter Tryz.func25, Tryz.ntmps25
  go_wp2_with fail
  generalize w.heap.size = z at *
  refine with_sat hs1 ?_
  clear hs1
  intro w0 hs1
  go_loopw [4] (fun kv wr => ∃ (k : Nat) (xs : List (Sl5 × Value)) (B : List Atom), kv = .int .i64 k ∧ k ≤ 16 ∧ xs.map Prod.fst = opSl q k ∧ RowsIn B xs ∧ Sat W wr (cellsA z (rringC bp xs (opNx q k)) 96 :: (B ++ (A ++ L)))) (fun kv _ => (16 - (intOf kv).toNat))
  case atStart => exact ⟨0, _, [], rfl, by omega, rfl, (fun x hx => by rw [(List.mem_replicate.1 hx).2]; exact RowIn.nil _), hs1⟩
  case round =>
    clear hs1
    obtain ⟨k, xs, B, rfl, hk, hxs, hri, hs⟩ := hrel
    have k0 : (0 : Int) ≤ k := by omega
    have hxl : xs.length = 16 := by have := congrArg List.length hxs; rw [List.length_map, opSl_length] at this; exact this
    have HXL := Lib.hid hxl
    have HXS := Lib.hid hxs
    have HRI := Lib.hid hri
    clear hxs hri hxl
    by_cases hkn : k < 16
    · have k1 : (k : Int) < 16 := by omega
      obtain ⟨l, hl⟩ : ∃ l, q.now[80 + k]? = some l := ⟨_, List.getElem?_eq_getElem (by have := HN.out; omega)⟩
      have hll := HL.out l (List.mem_of_getElem? hl)
      have hbk : blkI q k = readI l := by unfold blkI; rw [List.getD_eq_getElem?_getD, hl]; rfl
      have hrd := ref_read_k bp r A (80 + k) l W wr (cellsA z (rringC bp xs (opNx q k)) 96 :: (B ++ L)) HQ.out (hs.use (by intro x; simp only [cnt_append, cnt_cons, cnt_nil]; omega)) (by rw [HA.out]; exact hl) HPL.out
      rw [show (((80 + k : Nat)) : Int) = 80 + (k : Int) by omega] at hrd
      have hcv := conv_str l
      have hsb := bytes_sat hs l
      have hrb := ref_readI W _ _ (.slice (some ⟨wr.heap.size, 0, none⟩) l.length (grownCap wr l.length 0 5)) l hsb (fun y hy => bytes_reads hy _) hll (fun a n c h => by cases h; exact grownCap_ge _ _ _ _)
      have hnum := rdI_num l
      rw [rd_read l] at hbk
      obtain ⟨rd, hrdd⟩ : ∃ rd, rdI l = rd := ⟨_, rfl⟩
      rw [hrdd] at hrb hnum hbk
      obtain ⟨no, ⟨ss, sg, sd⟩, ok⟩ := rd
      simp only at hnum hbk hrb
      obtain ⟨n0, n1⟩ := hnum
      have HRD := Lib.hid hrd
      have HBK := Lib.hid hbk
      have HRB := Lib.hid hrb
      have nb := opNx_bounds q k
      have hrest := opSl_rest q k k (Nat.le_refl _) hkn
      have HREST := Lib.hid hrest
      have hnx : opNx q (k + 1) = max (opNx q k) ((blkI q k).num + 1) := by rw [opNx]
      have hsx : opSl q (k + 1) = (opSl q k).set k (blkI q k) := by rw [opSl]
      have HNX0 := Lib.hid hnx
      have HSX0 := Lib.hid hsx
      clear hrd hrb hbk hl hs hsb hrdd hrest hnx hsx
      go_wp2_with fail
      refine HRD.out.mono ?_; rintro r w4 ⟨rfl, rfl⟩
      clear HRD
      go_wp2_with fail
      refine HRB.out.mono ?_; rintro r w5 ⟨v5, R5, rfl, hr5, hs5'⟩
      clear HRB
      unfold itV
      simp only at hr5 ⊢
      obtain ⟨a5, c5, rfl⟩ := Ch.RowA.slice hr5
      have HR5 := Lib.hid hr5
      have hs6 := hs5'.newCells #[.int .i64 ss, .int .i64 sg, .slice a5 sd.length c5] 77
      obtain ⟨zt, hzt⟩ : ∃ zt, w5.heap.size = zt := ⟨_, rfl⟩
      rw [hzt] at hs6
      have hs5 := Sat.use (M := cellsA zt #[.int .i64 ss, .int .i64 sg, .slice a5 sd.length c5] 77 :: (cellsA z (rringC bp xs (opNx q k)) 96 :: (R5 ++ (B ++ (A ++ L))))) hs6 (by intro x; simp only [cnt_append, cnt_cons, cnt_nil]; omega)
      have HS5 := Lib.hid hs5.tail
      clear hs5' hs6
      by_cases hok : ok = true ∧ 1 ≤ no
      · obtain ⟨rfl, hno⟩ := hok
        have hb : blkI q k = ⟨true, no, ⟨ss, sg, sd⟩⟩ := by rw [HBK.out, if_pos ⟨rfl, hno⟩]
        have HNX := Lib.hid (show opNx q (k + 1) = max (opNx q k) (no + 1) by rw [HNX0.out, hb])
        have HSX := Lib.hid (show opSl q (k + 1) = (opSl q k).set k ⟨true, no, ⟨ss, sg, sd⟩⟩ by rw [HSX0.out, hb])
        clear hb HS5
        generalize opNx q k = nx at *
        go_upto_region 7 with fail
        try rw [hzt]
        refine with_sat hs5 ?_
        clear hs5
        intro w6 hs5
        have t0 : w6.cell? ⟨zt, 0, none⟩ = some (.int .i64 ss) := hs5.cell m0 0
        have t1 : w6.cell? ⟨zt, 1, none⟩ = some (.int .i64 sg) := hs5.cell m0 1
        have t2 : w6.cell? ⟨zt, 2, none⟩ = some (.slice a5 sd.length c5) := hs5.cell m0 2
        have hs7 := hs5.tail
        obtain ⟨⟨⟨ol, on, ⟨os, og, od⟩⟩, ov⟩, hxk⟩ : ∃ y, xs[k]? = some y := ⟨_, List.getElem?_eq_getElem (by rw [HXL.out]; exact hkn)⟩
        have e0 : w6.cell? ⟨z, 1 + k * 4, none⟩ = some (.int .i64 on) := by rw [hs7.cell m0]; exact rring_get hxk 0 _ rfl
        have e1 : w6.cell? ⟨z, 1 + k * 4 + 1, none⟩ = some (.int .i64 os) := by rw [hs7.cell m0]; exact rring_get hxk 1 _ rfl
        have e2 : w6.cell? ⟨z, 1 + k * 4 + 2, none⟩ = some (.int .i64 og) := by rw [hs7.cell m0]; exact rring_get hxk 2 _ rfl
        have e3 : w6.cell? ⟨z, 1 + k * 4 + 3, none⟩ = some ov := by rw [hs7.cell m0]; exact rring_get hxk 3 _ rfl
        have f0 := hs7.free m0 (1 + k * 4)
        have f1 := hs7.free m0 (1 + k * 4 + 1)
        have f2 := hs7.free m0 (1 + k * 4 + 2)
        have f3 := hs7.free m0 (1 + k * 4 + 3)
        go_wp2_with fail
        refine wp_region_one [8] [] [] [] [0, 1, 2, 3, 4, 5, 6, 7, 8] (by kernel_rfl) (by kernel_rfl) ?_
        repeat (first | (refine can_pu1 rfl rfl rfl rfl rfl rfl (fun K hK => ?_); go_big_quiet_op; refine hK _ ?_; clear hK K) | (refine can_st1 rfl rfl rfl rfl rfl rfl (fun K hK => ?_); go_big_quiet_op; refine hK _ ?_; clear hK K) | (refine can_early1 rfl rfl rfl rfl rfl (fun K hK => ?_); go_big_quiet_op; refine hK _ ?_; clear hK K) | (refine can_skip rfl rfl rfl ?_; simp only [Act.put, List.setIfInBounds_toArray, List.set_cons_zero, List.set_cons_succ]))
        refine can_act1 rfl rfl rfl (fun K hK => ?_)
        go_wp2_with fail
        refine can_end1 ?_; (try simp only [Exit.then])
        have hz := Sat.setCell (Sat.setCell (Sat.setCell (Sat.setCell hs7 (1 + k * 4) (.int .i64 no)) (1 + k * 4 + 1) (.int .i64 ss)) (1 + k * 4 + 2) (.int .i64 sg)) (1 + k * 4 + 3) (.slice a5 sd.length c5)
        rw [rring_set (xs := xs) ⟨true, no, ⟨ss, sg, sd⟩⟩ (.slice a5 sd.length c5) (by rw [HXL.out]; exact hkn)] at hz
        have hz := hz.drew
        clear e0 e1 e2 e3 f0 f1 f2 f3 hs5 hs7 t0 t1 t2
        refine with_sat hz ?_
        clear hz
        intro w8 hs8
        have hxl2 : (xs.set k (⟨true, no, ⟨ss, sg, sd⟩⟩, .slice a5 sd.length c5)).length = 16 := by rw [List.length_set, HXL.out]
        have e0 : w8.cell? ⟨z, 65, none⟩ = some (.int .i64 nx) := by rw [hs8.cell m0]; exact rring_next hxl2
        have f0 := hs8.free m0 65
        obtain ⟨mx, hmx⟩ : ∃ mx, mx = max nx (no + 1) := ⟨_, rfl⟩
        have HMX := Lib.hid hmx
        have hz := Sat.setCell hs8 65 (.int .i64 mx)
        rw [rring_setn mx hxl2] at hz
        have HZ := Lib.hid hz
        clear hz hxl2 hs8 hmx hxk
        by_cases hlt : nx < no + 1
        · obtain rfl : mx = no + 1 := by rw [HMX.out]; omega
          have hq1 : max nx (no + 1) = no + 1 := by omega
          go_wp2_with fail
          refine ⟨⟨k + 1, _, R5 ++ B, by simp, by omega, ?_, (HRI.out.mono (fun x hx => List.mem_append_right R5 hx)).set k (s := ⟨true, no, ⟨ss, sg, sd⟩⟩) (v := .slice a5 sd.length c5) ⟨R5, HR5.out, fun x hx => List.mem_append_left _ hx⟩, ?_⟩, ?_⟩
          · rw [HSX.out, List.map_set, HXS.out]
          · rw [HNX.out, ← HMX.out]
            exact HZ.out.use (by intro x; simp only [cnt_append, cnt_cons, cnt_nil]; omega)
          · simp [intOf]
            omega
        · obtain rfl : mx = nx := by rw [HMX.out]; omega
          have hq1 : max mx (no + 1) = mx := by omega
          go_wp2_with fail
          refine ⟨⟨k + 1, _, R5 ++ B, by simp, by omega, ?_, (HRI.out.mono (fun x hx => List.mem_append_right R5 hx)).set k (s := ⟨true, no, ⟨ss, sg, sd⟩⟩) (v := .slice a5 sd.length c5) ⟨R5, HR5.out, fun x hx => List.mem_append_left _ hx⟩, ?_⟩, ?_⟩
          · rw [HSX.out, List.map_set, HXS.out]
          · rw [HNX.out, ← HMX.out]
            exact HZ.out.use (by intro x; simp only [cnt_append, cnt_cons, cnt_nil]; omega)
          · simp [intOf]
            omega
      · have hb : blkI q k = sl0 := by rw [HBK.out, if_neg hok]
        have HNK := Lib.hid (show opNx q (k + 1) = opNx q k by rw [HNX0.out, hb]; show max (opNx q k) (0 + 1) = _; omega)
        have hsk : opSl q (k + 1) = opSl q k := by
          rw [HSX0.out, hb]
          obtain ⟨h1, h2⟩ := List.getElem?_eq_some_iff.1 HREST.out
          have h3 := @List.set_getElem_self _ (opSl q k) k h1
          rw [h2] at h3
          exact h3
        have HSK := Lib.hid hsk
        clear hsk
        clear hb hs5
        cases ok
        · clear hok
          go_wp2_with fail
          refine ⟨⟨k + 1, xs, B, by simp, by omega, by rw [HSK.out, HXS.out], HRI.out, ?_⟩, ?_⟩
          · rw [HNK.out]
            exact HS5.out.use (by intro x; simp only [cnt_append, cnt_cons, cnt_nil]; omega)
          · simp [intOf]
            omega
        · have h1 : ¬ 1 ≤ no := fun h => hok ⟨rfl, h⟩
          clear hok
          go_wp2_with fail
          refine ⟨⟨k + 1, xs, B, by simp, by omega, by rw [HSK.out, HXS.out], HRI.out, ?_⟩, ?_⟩
          · rw [HNK.out]
            exact HS5.out.use (by intro x; simp only [cnt_append, cnt_cons, cnt_nil]; omega)
          · simp [intOf]
            omega
    · have e : k = 16 := by omega
      subst e
      go_wp2_with fail
      go_ret
      exact ⟨z, _, rfl, ⟨xs, B, HXS.out, HRI.out, rfl⟩, hs⟩
end Go.Proofs.YtekbbpfnkbanjaaGreat.Ch
