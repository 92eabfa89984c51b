
/-
  A row of acts that came in (corbellaw10.Act).
-/
import Derived.Test.YtekbbpfnkbanjaaGreatRnM
import Derived.Test.YtekbbpfnkbanjaaGreatLrB
namespace Go.Proofs.YtekbbpfnkbanjaaGreat.Ch
set_option linter.unusedSimpArgs false
open Go Go.ChangeShapes Go.WideShapes Go.ChangeAt Go.RowKit Go.Sl
set_option linter.unusedVariables false

structure Act10R where
  what : Int
  kind : Int
  stripe : Int
  gen : Int
  index : Int
  seed : Int
  bend : Int
  keep : List Int
def Act10At (y : World) (a : Addr) (j : Nat) (x : Act10R) : Prop := ∃ ka kn kc,
  y.cell? (a.add (j * 8)) = some (.int .i64 x.what) ∧ y.cell? (a.add (j * 8 + 1)) = some (.int .i64 x.kind) ∧ y.cell? (a.add (j * 8 + 2)) = some (.int .i64 x.stripe) ∧
  y.cell? (a.add (j * 8 + 3)) = some (.int .i64 x.gen) ∧ y.cell? (a.add (j * 8 + 4)) = some (.int .i64 x.index) ∧ y.cell? (a.add (j * 8 + 5)) = some (.int .i64 x.seed) ∧
  y.cell? (a.add (j * 8 + 6)) = some (.int .i64 x.bend) ∧ y.cell? (a.add (j * 8 + 7)) = some (.slice ka kn kc) ∧
  Reads y (.slice ka kn kc) x.keep.length (intsC x.keep) ∧ x.keep.length ≤ maxLen
/-- A row of acts that came in. -/
def Acts10 (y : World) (a : Option Addr) (xs : List Act10R) : Prop := ∀ (j : Nat) (x : Act10R), xs[j]? = some x → ∃ b o ka kn kc, a = some ⟨b, o, none⟩ ∧
  y.cell? ⟨b, o + j * 8, none⟩ = some (.int .i64 x.what) ∧ y.cell? ⟨b, o + j * 8 + 1, none⟩ = some (.int .i64 x.kind) ∧ y.cell? ⟨b, o + j * 8 + 2, none⟩ = some (.int .i64 x.stripe) ∧
  y.cell? ⟨b, o + j * 8 + 3, none⟩ = some (.int .i64 x.gen) ∧ y.cell? ⟨b, o + j * 8 + 4, none⟩ = some (.int .i64 x.index) ∧ y.cell? ⟨b, o + j * 8 + 5, none⟩ = some (.int .i64 x.seed) ∧
  y.cell? ⟨b, o + j * 8 + 6, none⟩ = some (.int .i64 x.bend) ∧ y.cell? ⟨b, o + j * 8 + 7, none⟩ = some (.slice ka kn kc) ∧
  Reads y (.slice ka kn kc) x.keep.length (intsC x.keep) ∧ x.keep.length ≤ maxLen
theorem Acts10.below {W y : World} {a : Option Addr} {xs : List Act10R} (h : Acts10 W a xs) (hy : Below W.heap.size W y) : Acts10 y a xs := fun j x hj => by
  have key : ∀ {p : Addr} {v : Value}, W.cell? p = some v → y.cell? p = some v := fun {p v} hc => by
    rw [hy.cell (World.block_lt_of_cell? _ _ hc), hc]
  obtain ⟨b, o, ka, kn, kc, ha, h0, h1, h2, h3, h4, h5, h6, h7, h8, h9⟩ := h j x hj
  exact ⟨b, o, ka, kn, kc, ha, key h0, key h1, key h2, key h3, key h4, key h5, key h6, key h7, reads_below h8 hy, h9⟩

set_option maxRecDepth 100000 in
theorem acts10_in {H : Type} {enc : TypeId × Value → H} (W : World) (v : Value) (d : DataW H) (p : List MemPlace) (h : DataW.Trod enc Tryz.prog W 0 (fun _ => true) true 22 v d p) (hlt : ∀ x ∈ p, x.block < W.heap.size) (hv : Value.okWide Tryz.prog W .any 0 22 v) :
    ∃ xs : List Act10R, xs.length ≤ maxLen ∧ ∃ a c, v = .slice a xs.length c ∧ Acts10 W a xs := by
  obtain ⟨a0, len, cap, rfl⟩ := okWide_slice Tryz.underlying22 hv
  obtain ⟨fuel, hf⟩ := h
  have hc68 : Tryz.prog.cellsOf 32 = 8 := by kernel_rfl
  have hc3 : Tryz.prog.cellsOf 3 = 1 := by kernel_rfl
  have hc22 : Tryz.prog.cellsOf 30 = 1 := by kernel_rfl
  rcases Go.Deep.open_slice Tryz.underlying22 hf with ⟨hcs, hx⟩ | ⟨a, len', cap', m, n, D, Pl, hcs, _, hl, hm, hmm, hx, hi⟩
  · simp [Value.cells] at hcs
    obtain ⟨rfl, rfl, rfl⟩ := hcs
    exact ⟨[], Nat.zero_le _, none, 0, rfl, fun j x hj => by simp at hj⟩
  · simp [Value.cells] at hcs
    obtain ⟨rfl, rfl, rfl⟩ := hcs
    simp only [if_true] at hmm
    subst hmm
    have each : ∀ i, ∃ t : Act10R, i < m → Act10At W a i t := by
      intro i
      by_cases him : i < m
      · obtain ⟨cs', hc, ht⟩ := hi i him
        rw [hc68] at hc
        obtain ⟨ys, n', _, _, _, hyl, hfs⟩ := DataW.trod_struct Tryz.underlying32 ht
        obtain ⟨_, hcl, hat⟩ := World.cells?_some hc
        obtain ⟨x0, x1, x2, x3, x4, x5, x6, x7, rfl⟩ : ∃ x0 x1 x2 x3 x4 x5 x6 x7, cs' = [x0, x1, x2, x3, x4, x5, x6, x7] := by
          match cs', hcl with
          | [a, b, c, d, e, f, g, h], _ => exact ⟨a, b, c, d, e, f, g, h, rfl⟩
        have h0 : DataW.trod enc Tryz.prog W 0 (fun _ => true) true n' 3 (([x0, x1, x2, x3, x4, x5, x6, x7].drop 0).take (Tryz.prog.cellsOf 3)) = ys[0]? := hfs 0 _ rfl
        have h1 : DataW.trod enc Tryz.prog W 0 (fun _ => true) true n' 29 (([x0, x1, x2, x3, x4, x5, x6, x7].drop 1).take (Tryz.prog.cellsOf 29)) = ys[1]? := hfs 1 _ rfl
        have h2 : DataW.trod enc Tryz.prog W 0 (fun _ => true) true n' 30 (([x0, x1, x2, x3, x4, x5, x6, x7].drop 7).take (Tryz.prog.cellsOf 30)) = ys[2]? := hfs 2 _ rfl
        rw [hc3] at h0
        rw [show Tryz.prog.cellsOf 29 = 6 by kernel_rfl] at h1
        rw [hc22] at h2
        have hy : ys.length = 3 := hyl
        obtain ⟨y0, y1, y2, rfl⟩ : ∃ y0 y1 y2, ys = [y0, y1, y2] := by
          match ys, hy with
          | [a, b, c], _ => exact ⟨a, b, c, rfl⟩
        obtain ⟨dR, pR⟩ := y1
        have h1' : DataW.trod enc Tryz.prog W 0 (fun _ => true) true n' 29 [x1, x2, x3, x4, x5, x6] = some (dR, pR) := h1
        obtain ⟨zs, n2, _, _, _, hzl, hgs⟩ := DataW.trod_struct Tryz.underlying29 h1'
        have g0 : DataW.trod enc Tryz.prog W 0 (fun _ => true) true n2 3 (([x1, x2, x3, x4, x5, x6].drop 0).take (Tryz.prog.cellsOf 3)) = zs[0]? := hgs 0 _ rfl
        have g1 : DataW.trod enc Tryz.prog W 0 (fun _ => true) true n2 3 (([x1, x2, x3, x4, x5, x6].drop 1).take (Tryz.prog.cellsOf 3)) = zs[1]? := hgs 1 _ rfl
        have g2 : DataW.trod enc Tryz.prog W 0 (fun _ => true) true n2 3 (([x1, x2, x3, x4, x5, x6].drop 2).take (Tryz.prog.cellsOf 3)) = zs[2]? := hgs 2 _ rfl
        have g3 : DataW.trod enc Tryz.prog W 0 (fun _ => true) true n2 3 (([x1, x2, x3, x4, x5, x6].drop 3).take (Tryz.prog.cellsOf 3)) = zs[3]? := hgs 3 _ rfl
        have g4 : DataW.trod enc Tryz.prog W 0 (fun _ => true) true n2 3 (([x1, x2, x3, x4, x5, x6].drop 4).take (Tryz.prog.cellsOf 3)) = zs[4]? := hgs 4 _ rfl
        have g5 : DataW.trod enc Tryz.prog W 0 (fun _ => true) true n2 3 (([x1, x2, x3, x4, x5, x6].drop 5).take (Tryz.prog.cellsOf 3)) = zs[5]? := hgs 5 _ rfl
        rw [hc3] at g0 g1 g2 g3 g4 g5
        have hz : zs.length = 6 := hzl
        obtain ⟨z0, z1, z2, z3, z4, z5, rfl⟩ : ∃ z0 z1 z2 z3 z4 z5, zs = [z0, z1, z2, z3, z4, z5] := by
          match zs, hz with
          | [a, b, c, d, e, f], _ => exact ⟨a, b, c, d, e, f, rfl⟩
        obtain ⟨t0, e0, _, w0⟩ := DataW.trod_int Tryz.underlying3 (h0.trans rfl)
        obtain ⟨t1, e1, _, w1⟩ := DataW.trod_int Tryz.underlying3 (g0.trans rfl)
        obtain ⟨t2, e2, _, w2⟩ := DataW.trod_int Tryz.underlying3 (g1.trans rfl)
        obtain ⟨t3, e3, _, w3⟩ := DataW.trod_int Tryz.underlying3 (g2.trans rfl)
        obtain ⟨t4, e4, _, w4⟩ := DataW.trod_int Tryz.underlying3 (g3.trans rfl)
        obtain ⟨t5, e5, _, w5⟩ := DataW.trod_int Tryz.underlying3 (g4.trans rfl)
        obtain ⟨t6, e6, _, w6⟩ := DataW.trod_int Tryz.underlying3 (g5.trans rfl)
        have f0 : x0 = .int .i64 t0 := by simpa using e0
        subst f0
        have f1 : x1 = .int .i64 t1 := by simpa using e1
        subst f1
        have f2 : x2 = .int .i64 t2 := by simpa using e2
        subst f2
        have f3 : x3 = .int .i64 t3 := by simpa using e3
        subst f3
        have f4 : x4 = .int .i64 t4 := by simpa using e4
        subst f4
        have f5 : x5 = .int .i64 t5 := by simpa using e5
        subst f5
        have f6 : x6 = .int .i64 t6 := by simpa using e6
        subst f6
        have hk : ∃ ks : List Int, ks.length ≤ maxLen ∧ (∃ ka kn kc, x7 = .slice ka kn kc) ∧ Reads W x7 ks.length (intsC ks) := by
          have h7' : DataW.trod enc Tryz.prog W 0 (fun _ => true) true n' 30 [x7] = some y2 := h2
          obtain ⟨d7, p7⟩ := y2
          rcases open_ints Tryz.underlying30 Tryz.underlying3 (by kernel_rfl) h7' with ⟨hcs, hx⟩ | ⟨a, len', cap', zs, hcs, _, hl, hm, hz, hx, hcell, hwz⟩
          · obtain rfl : x7 = .slice none 0 0 := by simpa using hcs
            exact ⟨[], Nat.zero_le _, ⟨_, _, _, rfl⟩, .inl ⟨rfl, rfl, rfl⟩⟩
          · obtain rfl : x7 = .slice (some a) len' cap' := by simpa using hcs
            simp only [if_true] at hz
            have hlen : (zs.take len').length = len' := by simp; omega
            refine ⟨zs.take len', by rw [hlen]; omega, ⟨_, _, _, rfl⟩, .inr ⟨a, cap', by rw [hlen], fun j u hu => ?_⟩⟩
            have hj : j < len' := by
              have := (List.getElem?_eq_some_iff.1 hu).1
              rw [intsC_length, hlen] at this
              exact this
            rw [hcell j (by omega), ← hu, intsC, List.getElem?_map, List.getElem?_take, if_pos hj]
            simp [List.getD, show j < zs.length by omega]
        obtain ⟨ks, hkl, ⟨ka, kn, kc, rfl⟩, hks⟩ := hk
        have hat' : ∀ k, k < 8 → W.cell? (a.add (i * 8 + k)) = [Value.int .i64 t0, .int .i64 t1, .int .i64 t2, .int .i64 t3, .int .i64 t4, .int .i64 t5, .int .i64 t6, .slice ka kn kc][k]? := fun k hk => by
          have := hat k hk
          rwa [Go.Deep.add_add] at this
        exact ⟨⟨t0, t1, t2, t3, t4, t5, t6, ks⟩, fun _ => ⟨ka, kn, kc, hat' 0 (by omega), hat' 1 (by omega), hat' 2 (by omega), hat' 3 (by omega), hat' 4 (by omega), hat' 5 (by omega), hat' 6 (by omega), hat' 7 (by omega), hks, hkl⟩⟩
      · exact ⟨⟨0, 0, 0, 0, 0, 0, 0, []⟩, fun h => absurd h him⟩
    obtain ⟨f, hcell⟩ := Classical.skolem.1 each
    refine ⟨(List.range len).map f, by simp; omega, some a, m, by simp, fun j x hj => ?_⟩
    have hj2 : j < len := by
      have := (List.getElem?_eq_some_iff.1 hj).1
      simpa using this
    have hx : x = f j := by
      rw [List.getElem?_map, List.getElem?_range hj2] at hj
      simpa using hj.symm
    subst hx
    obtain ⟨b, off, spot⟩ := a
    obtain ⟨ka, kn, kc, h0, h1, h2, h3, h4, h5, h6, h7, h8, h9⟩ := hcell j (by omega)
    have hspot : spot = none := by
      obtain ⟨_, _, _, g0, _⟩ := hcell 0 (by omega)
      simpa [Addr.add] using World.cell?_spot g0
    subst hspot
    rw [add_row] at h0 h1 h2 h3 h4 h5 h6 h7
    rw [← Nat.add_assoc] at h1 h2 h3 h4 h5 h6 h7
    exact ⟨b, off, ka, kn, kc, rfl, h0, h1, h2, h3, h4, h5, h6, h7, h8, h9⟩
end Go.Proofs.YtekbbpfnkbanjaaGreat.Ch
