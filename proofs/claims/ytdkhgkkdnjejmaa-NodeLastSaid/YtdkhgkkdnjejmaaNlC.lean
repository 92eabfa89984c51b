/-
  Raw requests that came in; NodeLast over plain values.
-/
import Derived.Test.YtdkhgkkdnjejmaaNlB
import Derived.Test.YtdkhgkkdnjejmaaLrA
import Derived.Deep.Slices
import Derived.Deep.Fields
namespace Go.Proofs.Ytdkhgkkdnjejmaa.Ch
set_option linter.unusedSimpArgs false
open Go Go.ChangeShapes Go.WideShapes Go.ChangeAt Go.RowKit Go.Sl
set_option linter.unusedVariables false

/-- One raw request's cells. -/
def ReqAt (y : World) (a : Addr) (j : Nat) (x : RqR) : Prop :=
  y.cell? (a.add (j * 6)) = some (.int .i64 x.kind) ∧ y.cell? (a.add (j * 6 + 1)) = some (.int .i64 x.stripe) ∧ y.cell? (a.add (j * 6 + 2)) = some (.int .i64 x.gen) ∧
  y.cell? (a.add (j * 6 + 3)) = some (.int .i64 x.index) ∧ y.cell? (a.add (j * 6 + 4)) = some (.int .i64 x.seed) ∧ y.cell? (a.add (j * 6 + 5)) = some (.int .i64 x.bend)
theorem ReqAt.below {W y : World} {a : Addr} {j : Nat} {x : RqR} (h : ReqAt W a j x) (hy : Below W.heap.size W y) : ReqAt y a j x := by
  have key : ∀ {p : Addr} {v : Value}, W.cell? p = some v → y.cell? p = some v := fun {p v} hc => by
    rw [hy.cell (World.block_lt_of_cell? _ _ hc), hc]
  obtain ⟨h0, h1, h2, h3, h4, h5⟩ := h
  exact ⟨key h0, key h1, key h2, key h3, key h4, key h5⟩

set_option maxRecDepth 100000 in
theorem reqs_in {H : Type} {enc : TypeId × Value → H} (W : World) (v : Value) (d : DataW H) (p : List MemPlace) (h : DataW.Trod enc Try.prog W 0 (fun _ => true) true 86 v d p) (hlt : ∀ x ∈ p, x.block < W.heap.size) (hv : Value.okWide Try.prog W .any 0 86 v) :
    ∃ xs : List RqR, xs.length ≤ maxLen ∧ ∃ a c, v = .slice a xs.length c ∧ ∀ y, Below W.heap.size W y → ReqsIn y a xs := by
  obtain ⟨a0, len, cap, rfl⟩ := okWide_slice Try.underlying86 hv
  obtain ⟨fuel, hf⟩ := h
  have hc68 : Try.prog.cellsOf 89 = 6 := by kernel_rfl
  have hc3 : Try.prog.cellsOf 3 = 1 := by kernel_rfl
  rcases Go.Deep.open_slice Try.underlying86 hf with ⟨hcs, hx⟩ | ⟨a, len', cap', m, n, D, Pl, hcs, _, hl, hm, hmm, hx, hi⟩
  · simp [Value.cells] at hcs
    obtain ⟨rfl, rfl, rfl⟩ := hcs
    exact ⟨[], Nat.zero_le _, none, 0, rfl, fun y hy j x hj => by simp at hj⟩
  · simp [Value.cells] at hcs
    obtain ⟨rfl, rfl, rfl⟩ := hcs
    simp only [if_true] at hmm
    subst hmm
    have each : ∀ i, ∃ t : RqR, i < m → ReqAt W a i t := by
      intro i
      by_cases him : i < m
      · obtain ⟨cs', hc, ht⟩ := hi i him
        rw [hc68] at hc
        obtain ⟨ys, n', _, _, _, hyl, hfs⟩ := DataW.trod_struct Try.underlying89 ht
        obtain ⟨_, hcl, hat⟩ := World.cells?_some hc
        obtain ⟨x0, x1, x2, x3, x4, x5, rfl⟩ : ∃ x0 x1 x2 x3 x4 x5, cs' = [x0, x1, x2, x3, x4, x5] := by
          match cs', hcl with
          | [a, b, c, d, e, f], _ => exact ⟨a, b, c, d, e, f, rfl⟩
        have h0 : DataW.trod enc Try.prog W 0 (fun _ => true) true n' 3 (([x0, x1, x2, x3, x4, x5].drop 0).take (Try.prog.cellsOf 3)) = ys[0]? := hfs 0 _ rfl
        have h1 : DataW.trod enc Try.prog W 0 (fun _ => true) true n' 3 (([x0, x1, x2, x3, x4, x5].drop 1).take (Try.prog.cellsOf 3)) = ys[1]? := hfs 1 _ rfl
        have h2 : DataW.trod enc Try.prog W 0 (fun _ => true) true n' 3 (([x0, x1, x2, x3, x4, x5].drop 2).take (Try.prog.cellsOf 3)) = ys[2]? := hfs 2 _ rfl
        have h3 : DataW.trod enc Try.prog W 0 (fun _ => true) true n' 3 (([x0, x1, x2, x3, x4, x5].drop 3).take (Try.prog.cellsOf 3)) = ys[3]? := hfs 3 _ rfl
        have h4 : DataW.trod enc Try.prog W 0 (fun _ => true) true n' 3 (([x0, x1, x2, x3, x4, x5].drop 4).take (Try.prog.cellsOf 3)) = ys[4]? := hfs 4 _ rfl
        have h5 : DataW.trod enc Try.prog W 0 (fun _ => true) true n' 3 (([x0, x1, x2, x3, x4, x5].drop 5).take (Try.prog.cellsOf 3)) = ys[5]? := hfs 5 _ rfl
        rw [hc3] at h0 h1 h2 h3 h4 h5
        have hy : ys.length = 6 := hyl
        obtain ⟨y0, y1, y2, y3, y4, y5, rfl⟩ : ∃ y0 y1 y2 y3 y4 y5, ys = [y0, y1, y2, y3, y4, y5] := by
          match ys, hy with
          | [a, b, c, d, e, f], _ => exact ⟨a, b, c, d, e, f, rfl⟩
        obtain ⟨t0, e0, _, w0⟩ := DataW.trod_int Try.underlying3 (h0.trans rfl)
        obtain ⟨t1, e1, _, w1⟩ := DataW.trod_int Try.underlying3 (h1.trans rfl)
        obtain ⟨t2, e2, _, w2⟩ := DataW.trod_int Try.underlying3 (h2.trans rfl)
        obtain ⟨t3, e3, _, w3⟩ := DataW.trod_int Try.underlying3 (h3.trans rfl)
        obtain ⟨t4, e4, _, w4⟩ := DataW.trod_int Try.underlying3 (h4.trans rfl)
        obtain ⟨t5, e5, _, w5⟩ := DataW.trod_int Try.underlying3 (h5.trans rfl)
        have f0 : x0 = .int .i64 t0 := by simpa using e0
        subst f0
        have f1 : x1 = .int .i64 t1 := by simpa using e1
        subst f1
        have f2 : x2 = .int .i64 t2 := by simpa using e2
        subst f2
        have f3 : x3 = .int .i64 t3 := by simpa using e3
        subst f3
        have f4 : x4 = .int .i64 t4 := by simpa using e4
        subst f4
        have f5 : x5 = .int .i64 t5 := by simpa using e5
        subst f5
        have hat' : ∀ k, k < 6 → W.cell? (a.add (i * 6 + k)) = [Value.int .i64 t0, .int .i64 t1, .int .i64 t2, .int .i64 t3, .int .i64 t4, .int .i64 t5][k]? := fun k hk => by
          have := hat k hk
          rwa [Go.Deep.add_add] at this
        exact ⟨⟨t0, t1, t2, t3, t4, t5⟩, fun _ => ⟨hat' 0 (by omega), hat' 1 (by omega), hat' 2 (by omega), hat' 3 (by omega), hat' 4 (by omega), hat' 5 (by omega)⟩⟩
      · exact ⟨⟨0, 0, 0, 0, 0, 0⟩, fun h => absurd h him⟩
    obtain ⟨f, hcell⟩ := Classical.skolem.1 each
    refine ⟨(List.range len).map f, by simp; omega, some a, m, by simp, fun y hy j x hj => ?_⟩
    have hj2 : j < len := by
      have := (List.getElem?_eq_some_iff.1 hj).1
      simpa using this
    have hx : x = f j := by
      rw [List.getElem?_map, List.getElem?_range hj2] at hj
      simpa using hj.symm
    subst hx
    have hA := hcell j (by omega)
    obtain ⟨b, off, spot⟩ := a
    have hspot : spot = none := by simpa [Addr.add] using World.cell?_spot (hcell 0 (by omega)).1
    subst hspot
    obtain ⟨h0, h1, h2, h3, h4, h5⟩ := hA.below hy
    rw [add_row] at h0 h1 h2 h3 h4 h5
    rw [← Nat.add_assoc] at h1 h2 h3 h4 h5
    exact ⟨b, off, rfl, h0, h1, h2, h3, h4, h5⟩
theorem last_law (v : Value) (xs : List RqR) (kv : Value) (ks : List Int) (lose : Bool) (W : World) (h : ∃ a c, v = .slice a xs.length c ∧ ∀ y, Below W.heap.size W y → ReqsIn y a xs) (_ : xs.length ≤ maxLen) (hk : ∀ y, Below W.heap.size W y → Reads y kv ks.length (intsC ks)) (hkl : ks.length ≤ maxLen) :
    Calls Try.prog 11 #[v, kv, .bool lose] W fun e w' => e = .returned (.bool true) ∧ Below W.heap.size W w' := by
  obtain ⟨a, c, rfl, ha⟩ := h
  obtain ⟨ka, kc, rfl⟩ := reads_shape (hk W (Below.refl _ W))
  exact last_walk a ka c kc xs ks lose W ha hk (lt_of_max hkl)
end Go.Proofs.Ytdkhgkkdnjejmaa.Ch
