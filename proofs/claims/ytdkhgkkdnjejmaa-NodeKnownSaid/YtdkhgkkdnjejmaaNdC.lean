/-
  The ring of intents in memory; intent.Open.
-/
import Derived.Test.YtdkhgkkdnjejmaaNdB
namespace Go.Proofs.Ytdkhgkkdnjejmaa.Ch
set_option linter.unusedSimpArgs false
open Go Go.RowKit Go.Sl Go.BigFrame
set_option linter.unusedVariables false

def slotsC (xs : List (Sl5 × Value)) : List Value := (xs.map fun x => slCells x.1 x.2).flatten
theorem slotsC_length (xs : List (Sl5 × Value)) : (slotsC xs).length = xs.length * 5 := by
  induction xs with
  | nil => rfl
  | cons x xs ih =>
    simp only [slotsC, List.map_cons, List.flatten_cons, List.length_append, List.length_cons] at *
    rw [ih]
    simp [slCells]
    omega
theorem slotsC_get {xs : List (Sl5 × Value)} : ∀ {i : Nat} {p : Sl5} {v : Value}, xs[i]? = some (p, v) → ∀ f u, (slCells p v)[f]? = some u → (slotsC xs)[i * 5 + f]? = some u := by
  induction xs with
  | nil => intro i p v h; simp at h
  | cons x xs ih =>
    intro i p v h f u hu
    have hc : slotsC (x :: xs) = slCells x.1 x.2 ++ slotsC xs := rfl
    have hf : f < 5 := (List.getElem?_eq_some_iff.1 hu).1
    rw [hc]
    cases i with
    | zero =>
      simp only [List.getElem?_cons_zero, Option.some.injEq] at h
      rw [h, Nat.zero_mul, Nat.zero_add, List.getElem?_append_left (by exact hf)]
      exact hu
    | succ i =>
      have h2 : xs[i]? = some (p, v) := by simpa using h
      rw [List.getElem?_append_right (by show 5 ≤ _; omega)]
      have := ih h2 f u hu
      rw [show (i + 1) * 5 + f - (slCells x.1 x.2).length = i * 5 + f by show (i + 1) * 5 + f - 5 = _; omega]
      exact this
theorem slotsC_set {xs : List (Sl5 × Value)} : ∀ {i : Nat} (p : Sl5) (v : Value), i < xs.length → (((((slotsC xs).set (i * 5) (.bool p.live)).set (i * 5 + 1) (.int .i64 p.num)).set (i * 5 + 2) (.int .i64 p.i.stripe)).set (i * 5 + 3) (.int .i64 p.i.gen)).set (i * 5 + 4) v = slotsC (xs.set i (p, v)) := by
  induction xs with
  | nil => intro i p v h; simp at h
  | cons x xs ih =>
    intro i p v h
    obtain ⟨⟨s, g, ⟨ix, ig, d⟩⟩, u⟩ := x
    have hc : ∀ (p : Sl5) (v : Value) (ys : List (Sl5 × Value)), slotsC ((p, v) :: ys) = .bool p.live :: .int .i64 p.num :: .int .i64 p.i.stripe :: .int .i64 p.i.gen :: v :: slotsC ys := fun p v ys => rfl
    cases i with
    | zero =>
      rfl
    | succ i =>
      have h2 := ih p v (by simpa using h)
      rw [hc, List.set_cons_succ, hc, ← h2]
      have e0 : (i + 1) * 5 = i * 5 + 5 := by omega
      rw [e0]
      rfl

/-- The ring's cells. -/
def ringC (bp : Nat) (xs : List (Sl5 × Value)) (nx : Int) : Array Value := (.pointer (some ⟨bp, 0, none⟩) :: (slotsC xs ++ [.int .i64 nx])).toArray
theorem ring_get {bp : Nat} {xs : List (Sl5 × Value)} {nx : Int} {i : Nat} {p : Sl5} {v : Value} (h : xs[i]? = some (p, v)) (f : Nat) (u : Value) (hu : (slCells p v)[f]? = some u) : (ringC bp xs nx)[1 + i * 5 + f]? = some u := by
  have h1 := slotsC_get h f u hu
  have h2 := (List.getElem?_eq_some_iff.1 h1).1
  unfold ringC
  rw [List.getElem?_toArray, show 1 + i * 5 + f = (i * 5 + f) + 1 by omega, List.getElem?_cons_succ, List.getElem?_append_left h2]
  exact h1
theorem ring_next {bp : Nat} {xs : List (Sl5 × Value)} {nx : Int} (h : xs.length = 16) : (ringC bp xs nx)[81]? = some (.int .i64 nx) := by
  unfold ringC
  rw [List.getElem?_toArray, List.getElem?_cons_succ, List.getElem?_append_right (by rw [slotsC_length, h]; decide), slotsC_length, h]
  rfl
theorem ring_set {bp : Nat} {xs : List (Sl5 × Value)} {nx : Int} {i : Nat} (p : Sl5) (v : Value) (h : i < xs.length) :
    (((((ringC bp xs nx).setIfInBounds (1 + i * 5) (.bool p.live)).setIfInBounds (1 + i * 5 + 1) (.int .i64 p.num)).setIfInBounds (1 + i * 5 + 2) (.int .i64 p.i.stripe)).setIfInBounds (1 + i * 5 + 3) (.int .i64 p.i.gen)).setIfInBounds (1 + i * 5 + 4) v = ringC bp (xs.set i (p, v)) nx := by
  have hl := slotsC_length xs
  unfold ringC
  simp only [List.setIfInBounds_toArray]
  rw [show 1 + i * 5 = i * 5 + 1 by omega, show i * 5 + 1 + 1 = (i * 5 + 1) + 1 by omega, show i * 5 + 1 + 2 = (i * 5 + 2) + 1 by omega, show i * 5 + 1 + 3 = (i * 5 + 3) + 1 by omega, show i * 5 + 1 + 4 = (i * 5 + 4) + 1 by omega]
  simp only [List.set_cons_succ]
  rw [List.set_append_left (i * 5) _ (by omega), List.set_append_left (i * 5 + 1) _ (by rw [List.length_set]; omega), List.set_append_left (i * 5 + 2) _ (by rw [List.length_set, List.length_set]; omega), List.set_append_left (i * 5 + 3) _ (by rw [List.length_set, List.length_set, List.length_set]; omega), List.set_append_left (i * 5 + 4) _ (by rw [List.length_set, List.length_set, List.length_set, List.length_set]; omega), slotsC_set p v h]
theorem ring_setn {bp : Nat} {xs : List (Sl5 × Value)} {nx : Int} (n' : Int) (h : xs.length = 16) : (ringC bp xs nx).setIfInBounds 81 (.int .i64 n') = ringC bp xs n' := by
  unfold ringC
  rw [List.setIfInBounds_toArray, List.set_cons_succ, List.set_append_right _ _ (by rw [slotsC_length, h]; decide), slotsC_length, h]
  rfl

/-- The value is a row among B with bytes l, or nothing. -/
def RowIn (B : List Atom) (v : Value) (l : List UInt8) : Prop := ∃ R, RowA 5 1 v l.length (bts l) R ∧ ∀ x ∈ R, x ∈ B
theorem RowIn.mono {B B' : List Atom} {v : Value} {l : List UInt8} (h : RowIn B v l) (hs : ∀ x ∈ B, x ∈ B') : RowIn B' v l := by
  obtain ⟨R, h1, h2⟩ := h
  exact ⟨R, h1, fun x hx => hs x (h2 x hx)⟩
theorem RowIn.nil (B : List Atom) : RowIn B (.slice none 0 0) [] := ⟨[], RowA.nil _ _, fun x hx => by simp at hx⟩
theorem RowIn.shape {B : List Atom} {v : Value} {l : List UInt8} (h : RowIn B v l) : ∃ a c, v = .slice a l.length c := by
  obtain ⟨R, h1, _⟩ := h
  exact Ch.RowA.slice h1
theorem RowIn.reads {W y : World} {B L : List Atom} {v : Value} {l : List UInt8} (h : RowIn B v l) (hs : Sat W y L) (hb : ∀ x ∈ B, x ∈ L) : Reads y v l.length (bts l) := by
  obtain ⟨R, h1, h2⟩ := h
  rcases h1.2 with ⟨e1, e2, e3⟩ | ⟨g, off, cap, e1, e2, e3, rfl⟩
  · exact .inl ⟨e1, e2, by rw [List.length_eq_zero_iff.1 e2]; rfl⟩
  · obtain ⟨o, ho, hp⟩ := hs.get (hb _ (h2 _ (List.mem_singleton.2 rfl)))
    refine .inr ⟨_, _, e1, fun j u hu => ?_⟩
    rw [add_row, (hp.cell ho j (List.getElem?_eq_some_iff.1 hu).1).1, hu]
def RowsIn (B : List Atom) (xs : List (Sl5 × Value)) : Prop := ∀ x ∈ xs, RowIn B x.2 x.1.i.data
theorem RowsIn.mono {B B' : List Atom} {xs : List (Sl5 × Value)} (h : RowsIn B xs) (hs : ∀ x ∈ B, x ∈ B') : RowsIn B' xs := fun x hx => (h x hx).mono hs
theorem RowsIn.set {B : List Atom} {xs : List (Sl5 × Value)} (h : RowsIn B xs) (k : Nat) {s : Sl5} {v : Value} (hv : RowIn B v s.i.data) : RowsIn B (xs.set k (s, v)) := fun x hx => by
  rcases List.mem_or_eq_of_mem_set hx with h1 | h1
  · exact h x h1
  · rw [h1]; exact hv

/-- A ring: its slots, the next number. -/
structure Rg where
  slots : List Sl5
  next : Int
def RgA (b bp : Nat) (g : Rg) (A : List Atom) : Prop := ∃ xs B, xs.map Prod.fst = g.slots ∧ RowsIn B xs ∧ A = cellsA b (ringC bp xs g.next) 160 :: B

/-- intent.Open. -/
noncomputable def blkI (q : Pt) (k : Nat) : Sl5 := readI (q.now.getD (80 + k) [])
noncomputable def opSl (q : Pt) : Nat → List Sl5
  | 0 => List.replicate 16 sl0
  | k + 1 => (opSl q k).set k (blkI q k)
noncomputable def opNx (q : Pt) : Nat → Int
  | 0 => 1
  | k + 1 => max (opNx q k) ((blkI q k).num + 1)
noncomputable def openRg (q : Pt) : Rg := ⟨opSl q 16, opNx q 16⟩
theorem opSl_length (q : Pt) : ∀ k, (opSl q k).length = 16
  | 0 => rfl
  | k + 1 => by rw [opSl, List.length_set, opSl_length q k]
theorem readI_num (b : List UInt8) : 0 ≤ (readI b).num ∧ (readI b).num < 281474976710656 := by
  unfold readI
  split
  · split
    · rename_i h
      obtain ⟨h1, h2⟩ := numB_bounds ((openB b).2.1.take 6) 6 (by simp; omega)
      exact ⟨h1, by simpa using h2⟩
    · exact ⟨Int.le_refl _, by decide⟩
  · exact ⟨Int.le_refl _, by decide⟩
theorem opNx_bounds (q : Pt) : ∀ k, 1 ≤ opNx q k ∧ opNx q k ≤ 281474976710656
  | 0 => by unfold opNx; omega
  | k + 1 => by
    have h := opNx_bounds q k
    have h2 := readI_num (q.now.getD (80 + k) [])
    unfold opNx blkI
    omega

set_option maxRecDepth 100000 in
theorem iopen_bad (b : Nat) (q : Pt) (A : List Atom) (W w : World) (L : List Atom) (hq : PtA b q A) (hs : Sat W w (A ++ L)) (hn : q.now.length ≠ 96) :
    Calls Try.prog 98 #[.pointer (some ⟨b, 0, none⟩)] w fun e w' => e = .returned (.tuple #[.pointer none, .int .i64 1]) ∧ w = w' := by
  have q0 : ((q.now.length : Int) != 96) = true := by simp; omega
  have hb := blocks_any b q A W w L hq hs
  clear hs
  go_enter Try.func98, Try.ntmps98
  go_wp2_with fail
  refine hb.mono ?_; rintro r w2 ⟨rfl, rfl⟩
  go_wp2_with fail
  go_ret2
  exact ⟨rfl, rfl⟩

set_option maxRecDepth 100000 in
set_option maxHeartbeats 4000000 in
theorem iopen_any (bp : Nat) (q : Pt) (A : List Atom) (W w : World) (L : List Atom) (hq : PtA bp q A) (hs : Sat W w (A ++ L)) (hn : q.now.length = 96) (hl : ∀ l ∈ q.now, l.length < 1000000) :
    Calls Try.prog 98 #[.pointer (some ⟨bp, 0, none⟩)] w fun e w' => ∃ b A', e = .returned (.tuple #[.pointer (some ⟨b, 0, none⟩), .int .i64 0]) ∧ RgA b bp (openRg q) A' ∧ Sat W w' (A' ++ (A ++ L)) := by
  have q0 : ((q.now.length : Int) != 96) = false := by simp; omega
  have hb := blocks_any bp q A W w L hq hs
  have hs1 := hs.newCells (ringC bp (List.replicate 16 (sl0, .slice none 0 0)) 1) 160
  have HQ := Lib.hid hq
  have HN := Lib.hid hn
  have HL := Lib.hid hl
  clear hs hq hn hl
  go_enter Try.func98, Try.ntmps98
  go_wp2_with fail
  refine hb.mono ?_; rintro r w2 ⟨rfl, rfl⟩
  clear hb
  go_wp2_with fail
  generalize w.heap.size = z at *
  refine with_sat hs1 ?_
  clear hs1
  intro w0 hs1
  go_loopw [18] (fun kv wr => ∃ (k : Nat) (xs : List (Sl5 × Value)) (B : List Atom), kv = .int .i64 k ∧ k ≤ 16 ∧ xs.map Prod.fst = opSl q k ∧ RowsIn B xs ∧ Sat W wr (cellsA z (ringC bp xs (opNx q k)) 160 :: (B ++ (A ++ L)))) (fun kv _ => (16 - (intOf kv).toNat))
  case atStart => exact ⟨0, _, [], rfl, by omega, rfl, (fun x hx => by rw [(List.mem_replicate.1 hx).2]; exact RowIn.nil _), hs1⟩
  case round =>
    clear hs1
    obtain ⟨k, xs, B, rfl, hk, hxs, hri, hs⟩ := hrel
    have k0 : (0 : Int) ≤ k := by omega
    have hxl : xs.length = 16 := by have := congrArg List.length hxs; rw [List.length_map, opSl_length] at this; exact this
    have HXL := Lib.hid hxl
    have HXS := Lib.hid hxs
    have HRI := Lib.hid hri
    clear hxs hri hxl
    by_cases hkn : k < 16
    · have k1 : (k : Int) < 16 := by omega
      obtain ⟨l, hl⟩ : ∃ l, q.now[80 + k]? = some l := ⟨_, List.getElem?_eq_getElem (by have := HN.out; omega)⟩
      have hll := HL.out l (List.mem_of_getElem? hl)
      have hbk : blkI q k = readI l := by unfold blkI; rw [List.getD_eq_getElem?_getD, hl]; rfl
      have hrd := read_in bp q A (80 + k) l W wr (cellsA z (ringC bp xs (opNx q k)) 160 :: (B ++ L)) HQ.out (hs.use (by intro x; simp only [cnt_append, cnt_cons, cnt_nil]; omega)) hl hll
      rw [show (((80 + k : Nat)) : Int) = 80 + (k : Int) by omega] at hrd
      have hbl := fun w => iblock_any (k : Int) w k0 (by omega)
      have HRD := Lib.hid hrd
      have HBL := Lib.hid hbl
      have HBK := Lib.hid hbk
      clear hrd hbl hbk hl hs
      go_wp2_with fail
      refine (HBL.out _).mono ?_; rintro r w3 ⟨rfl, rfl⟩
      go_wp2_with fail
      refine HRD.out.mono ?_; rintro r w4 ⟨v4, R4, rfl, hr4, hs4⟩
      have hcap4 : ∀ a n c, v4 = .slice a n c → n ≤ c := fun a n c h => by
        rcases hr4.2 with ⟨h1, h2, _⟩ | ⟨g, off, cap, h1, h2, _⟩
        · rw [h1] at h; cases h; exact Nat.le_refl _
        · rw [h1] at h; cases h; exact h2
      have hrb := iread_any W w4.drew _ v4 l hs4.drew (fun y hy => hr4.reads hy) hll hcap4
      rw [← HBK.out] at hrb
      have hnum := readI_num l
      rw [← HBK.out] at hnum
      obtain ⟨a4, c4, rfl⟩ := Ch.RowA.slice hr4
      have HRB := Lib.hid hrb
      clear hrb hcap4 HRD
      obtain ⟨S, hS⟩ : ∃ S, S = blkI q k := ⟨_, rfl⟩
      rw [← hS] at hnum HRB
      have HS := Lib.hid hS
      clear hS HBK
      obtain ⟨sl, sn, ⟨ss, sg, sd⟩⟩ := S
      have nb := opNx_bounds q k
      have hnx : opNx q (k + 1) = max (opNx q k) (sn + 1) := by rw [opNx, ← HS.out]
      have hsx : opSl q (k + 1) = (opSl q k).set k ⟨sl, sn, ⟨ss, sg, sd⟩⟩ := by rw [opSl, ← HS.out]
      have HNX := Lib.hid hnx
      have HSX := Lib.hid hsx
      clear hnx hsx
      generalize opNx q k = nx at *
      go_wp2_with fail
      refine wp_region_one [3, 7] [0, 1, 4, 5] [0, 1, 4, 5] [] [0, 1, 2, 4, 5, 3, 6, 7] (by kernel_rfl) (by kernel_rfl) ?_
      repeat (first | (refine can_pu1 rfl rfl rfl rfl rfl rfl (fun K hK => ?_); go_big_quiet_op; refine hK _ ?_; clear hK K) | (refine can_st1 rfl rfl rfl rfl rfl rfl (fun K hK => ?_); go_big_quiet_op; refine hK _ ?_; clear hK K) | (refine can_early1 rfl rfl rfl rfl rfl (fun K hK => ?_); go_big_quiet_op; refine hK _ ?_; clear hK K) | (refine can_skip rfl rfl rfl ?_; simp only [Act.put, List.setIfInBounds_toArray, List.set_cons_zero, List.set_cons_succ]))
      refine can_act1 rfl rfl rfl (fun K hK => ?_)
      go_wp2_with fail
      refine HRB.out.mono ?_; rintro r w5 ⟨v5, R5, rfl, hr5, hs5'⟩
      apply hK
      clear hK HRB
      unfold slV
      simp only at hr5 hnum ⊢
      obtain ⟨a5, c5, rfl⟩ := Ch.RowA.slice hr5
      repeat (first | (refine can_pu1 rfl rfl rfl rfl rfl rfl (fun K hK => ?_); go_big_quiet_op; refine hK _ ?_; clear hK K) | (refine can_st1 rfl rfl rfl rfl rfl rfl (fun K hK => ?_); go_big_quiet_op; refine hK _ ?_; clear hK K) | (refine can_early1 rfl rfl rfl rfl rfl (fun K hK => ?_); go_big_quiet_op; refine hK _ ?_; clear hK K) | (refine can_skip rfl rfl rfl ?_; simp only [Act.put, List.setIfInBounds_toArray, List.set_cons_zero, List.set_cons_succ]))
      have hs5 := Sat.use (M := cellsA z (ringC bp xs nx) 160 :: (R5 ++ (B ++ (A ++ L)))) hs5' (by intro x; simp only [cnt_append, cnt_cons, cnt_nil]; omega)
      obtain ⟨⟨⟨ol, on, ⟨os, og, od⟩⟩, ov⟩, hxk⟩ : ∃ y, xs[k]? = some y := ⟨_, List.getElem?_eq_getElem (by rw [HXL.out]; exact hkn)⟩
      have e0 : w5.cell? ⟨z, 1 + k * 5, none⟩ = some (.bool ol) := by rw [hs5.cell m0]; exact ring_get hxk 0 _ rfl
      have e1 : w5.cell? ⟨z, 1 + k * 5 + 1, none⟩ = some (.int .i64 on) := by rw [hs5.cell m0]; exact ring_get hxk 1 _ rfl
      have e2 : w5.cell? ⟨z, 1 + k * 5 + 2, none⟩ = some (.int .i64 os) := by rw [hs5.cell m0]; exact ring_get hxk 2 _ rfl
      have e3 : w5.cell? ⟨z, 1 + k * 5 + 3, none⟩ = some (.int .i64 og) := by rw [hs5.cell m0]; exact ring_get hxk 3 _ rfl
      have e4 : w5.cell? ⟨z, 1 + k * 5 + 4, none⟩ = some ov := by rw [hs5.cell m0]; exact ring_get hxk 4 _ rfl
      have f0 := hs5.free m0 (1 + k * 5)
      have f1 := hs5.free m0 (1 + k * 5 + 1)
      have f2 := hs5.free m0 (1 + k * 5 + 2)
      have f3 := hs5.free m0 (1 + k * 5 + 3)
      have f4 := hs5.free m0 (1 + k * 5 + 4)
      refine can_act1 rfl rfl rfl (fun K hK => ?_)
      go_wp2_with fail
      refine can_end1 ?_; (try simp only [Exit.then])
      have hz := Sat.setCell (Sat.setCell (Sat.setCell (Sat.setCell (Sat.setCell hs5 (1 + k * 5) (.bool sl)) (1 + k * 5 + 1) (.int .i64 sn)) (1 + k * 5 + 2) (.int .i64 ss)) (1 + k * 5 + 3) (.int .i64 sg)) (1 + k * 5 + 4) (.slice a5 sd.length c5)
      rw [ring_set (xs := xs) ⟨sl, sn, ⟨ss, sg, sd⟩⟩ (.slice a5 sd.length c5) (by rw [HXL.out]; exact hkn)] at hz
      clear e0 e1 e2 e3 e4 f0 f1 f2 f3 f4 hs5 hs5'
      refine with_sat hz ?_
      clear hz
      intro w6 hs6
      have hxl2 : (xs.set k (⟨sl, sn, ⟨ss, sg, sd⟩⟩, .slice a5 sd.length c5)).length = 16 := by rw [List.length_set, HXL.out]
      have hxk2 : (xs.set k (⟨sl, sn, ⟨ss, sg, sd⟩⟩, .slice a5 sd.length c5))[k]? = some (⟨sl, sn, ⟨ss, sg, sd⟩⟩, .slice a5 sd.length c5) := List.getElem?_set_self (by rw [HXL.out]; exact hkn)
      have e0 : w6.cell? ⟨z, 81, none⟩ = some (.int .i64 nx) := by rw [hs6.cell m0]; exact ring_next hxl2
      have e1 : w6.cell? ⟨z, 1 + k * 5 + 1, none⟩ = some (.int .i64 sn) := by rw [hs6.cell m0]; exact ring_get hxk2 1 _ rfl
      have f0 := hs6.free m0 81
      obtain ⟨mx, hmx⟩ : ∃ mx, mx = max nx (sn + 1) := ⟨_, rfl⟩
      have HMX := Lib.hid hmx
      have hz := Sat.setCell hs6 81 (.int .i64 mx)
      rw [ring_setn mx hxl2] at hz
      have HZ := Lib.hid hz
      clear hz hxl2 hxk2 hs6 hmx
      by_cases hlt : nx < sn + 1
      · obtain rfl : mx = sn + 1 := by rw [HMX.out]; omega
        go_wp2_with fail
        refine wp_region_one [16] [] [] [] [0, 1, 2, 3, 4, 5, 6, 7, 8, 9, 10, 11, 12, 13, 14, 15, 16] (by kernel_rfl) (by kernel_rfl) ?_
        repeat (first | (refine can_pu1 rfl rfl rfl rfl rfl rfl (fun K hK => ?_); go_big_quiet_op; refine hK _ ?_; clear hK K) | (refine can_st1 rfl rfl rfl rfl rfl rfl (fun K hK => ?_); go_big_quiet_op; refine hK _ ?_; clear hK K) | (refine can_early1 rfl rfl rfl rfl rfl (fun K hK => ?_); go_big_quiet_op; refine hK _ ?_; clear hK K) | (refine can_skip rfl rfl rfl ?_; simp only [Act.put, List.setIfInBounds_toArray, List.set_cons_zero, List.set_cons_succ]))
        refine can_act1 rfl rfl rfl (fun K hK => ?_)
        go_wp2_with fail
        refine can_end1 ?_; (try simp only [Exit.then])
        go_wp2_with fail
        refine ⟨⟨k + 1, _, R5 ++ B, by simp, by omega, ?_, (HRI.out.mono (fun x hx => List.mem_append_right R5 hx)).set k (s := ⟨sl, sn, ⟨ss, sg, sd⟩⟩) (v := .slice a5 sd.length c5) ⟨R5, hr5, fun x hx => List.mem_append_left _ hx⟩, ?_⟩, ?_⟩
        · rw [HSX.out, List.map_set, HXS.out]
        · rw [HNX.out, ← HMX.out]
          exact HZ.out.drew.use (by intro x; simp only [cnt_append, cnt_cons, cnt_nil]; omega)
        · simp [intOf]
          omega
      · obtain rfl : mx = nx := by rw [HMX.out]; omega
        go_wp2_with fail
        refine wp_region_one [16] [] [] [] [0, 1, 2, 3, 4, 5, 6, 7, 8, 9, 10, 11, 12, 13, 14, 15, 16] (by kernel_rfl) (by kernel_rfl) ?_
        repeat (first | (refine can_pu1 rfl rfl rfl rfl rfl rfl (fun K hK => ?_); go_big_quiet_op; refine hK _ ?_; clear hK K) | (refine can_st1 rfl rfl rfl rfl rfl rfl (fun K hK => ?_); go_big_quiet_op; refine hK _ ?_; clear hK K) | (refine can_early1 rfl rfl rfl rfl rfl (fun K hK => ?_); go_big_quiet_op; refine hK _ ?_; clear hK K) | (refine can_skip rfl rfl rfl ?_; simp only [Act.put, List.setIfInBounds_toArray, List.set_cons_zero, List.set_cons_succ]))
        refine can_act1 rfl rfl rfl (fun K hK => ?_)
        go_wp2_with fail
        refine can_end1 ?_; (try simp only [Exit.then])
        go_wp2_with fail
        refine ⟨⟨k + 1, _, R5 ++ B, by simp, by omega, ?_, (HRI.out.mono (fun x hx => List.mem_append_right R5 hx)).set k (s := ⟨sl, sn, ⟨ss, sg, sd⟩⟩) (v := .slice a5 sd.length c5) ⟨R5, hr5, fun x hx => List.mem_append_left _ hx⟩, ?_⟩, ?_⟩
        · rw [HSX.out, List.map_set, HXS.out]
        · rw [HNX.out, ← HMX.out]
          exact HZ.out.drew.use (by intro x; simp only [cnt_append, cnt_cons, cnt_nil]; omega)
        · simp [intOf]
          omega
    · have e : k = 16 := by omega
      subst e
      go_wp2_with fail
      go_ret2
      exact ⟨z, _, rfl, ⟨xs, B, HXS.out, HRI.out, rfl⟩, hs⟩
end Go.Proofs.Ytdkhgkkdnjejmaa.Ch
