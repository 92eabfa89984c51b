/-
  ChunkLays: what came in; the law over plain values.
-/
import Derived.Test.YtdkhgkkdnjejmaaLlA
import Derived.Test.YtdkhgkkdnjejmaaLrA
import Derived.SizedLaws
namespace Go.Proofs.Ytdkhgkkdnjejmaa.Ch
set_option linter.unusedSimpArgs false
open Go Go.ChangeShapes Go.WideShapes Go.ChangeAt Go.RowKit Go.Sl
set_option linter.unusedVariables false

theorem u8_of {n : Int} (h : (Lit.int .u8 n).wf = true) : ∃ b : UInt8, n = (b.toNat : Int) := by
  have h2 : IntKind.u8.min ≤ n ∧ n ≤ IntKind.u8.max := by simpa [Lit.wf] using h
  rw [show IntKind.u8.min = 0 by decide, show IntKind.u8.max = 255 by decide] at h2
  refine ⟨UInt8.ofNat n.toNat, ?_⟩
  rw [UInt8.toNat_ofNat']
  omega

set_option maxRecDepth 100000 in
theorem bytes_in {H : Type} {enc : TypeId × Value → H} (W : World) (v : Value) (d : DataW H) (p : List MemPlace) (h : DataW.Trod enc Try.prog W 0 (fun _ => true) true 32 v d p) (hlt : ∀ x ∈ p, x.block < W.heap.size) (hv : Value.okWide Try.prog W .any 0 32 v)
    {ts : List TypeId} {ds : List (DataW H)} (hw : (DataW.weightsEach Try.prog ts ds).all (· ≤ reachBytes) = true) {j : Nat} (ht : ts[j]? = some 32) (hd : ds[j]? = some d) :
    ∃ l : List UInt8, (∀ a n c, v = .slice a n c → n ≤ c) ∧ l.length ≤ 140737488355328 ∧ ∀ y, Below W.heap.size W y → Reads y v l.length (bts l) := by
  obtain ⟨a0, len, cap, rfl⟩ := okWide_slice Try.underlying32 hv
  obtain ⟨fuel, hf⟩ := h
  rcases open_ints Try.underlying32 Try.underlying5 (by kernel_rfl) hf with ⟨hcs, hx⟩ | ⟨a, len', cap', zs, hcs, _, hl, hm, hz, hx, hcell, hwz⟩
  · simp [Value.cells] at hcs
    obtain ⟨rfl, rfl, rfl⟩ := hcs
    exact ⟨[], (fun a n c h => by cases h; exact Nat.le_refl _), Nat.zero_le _, fun y _ => .inl ⟨rfl, rfl, rfl⟩⟩
  · simp [Value.cells] at hcs
    obtain ⟨rfl, rfl, rfl⟩ := hcs
    simp only [if_true] at hz
    simp only [Prod.mk.injEq] at hx
    obtain ⟨rfl, rfl⟩ := hx
    have hsz := sized_slice hw ht hd Try.underlying32
    rw [show Try.prog.bytesOf 5 = 1 by kernel_rfl, show reachBytes = 140737488351232 by decide] at hsz
    have hsz2 : len ≤ 140737488355328 := by
      simp [lits] at hsz
      omega
    have hlen : ((zs.take len).map fun n => UInt8.ofNat n.toNat).length = len := by simp; omega
    refine ⟨(zs.take len).map fun n => UInt8.ofNat n.toNat, (fun a n c h => by cases h; exact hl), by rw [hlen]; exact hsz2, fun y hy => .inr ⟨a, cap, by rw [hlen], fun j u hu => ?_⟩⟩
    have hj : j < len := by
      have := (List.getElem?_eq_some_iff.1 hu).1
      rw [bts_length, hlen] at this
      exact this
    have hc := hcell j (by omega)
    have hb : (a.add j).block < W.heap.size := World.block_lt_of_cell? _ _ hc
    rw [hy.cell hb, hc, ← hu]
    obtain ⟨z, hzj⟩ : ∃ z, zs[j]? = some z := ⟨_, List.getElem?_eq_getElem (by omega)⟩
    obtain ⟨q, hq⟩ := u8_of (hwz z (List.mem_of_getElem? hzj))
    simp only [bts, List.map_map, List.getElem?_map, List.getElem?_take, if_pos hj, hzj, Option.map_some, List.getD_eq_getElem?_getD, Option.getD_some, Function.comp]
    rw [hq]
    simp

theorem lays_law (s g i seed bend how : Int) (bn : Int) (rv av : Value) (raw : List UInt8) (ks : List Int) (W : World) (hbn : (Lit.int .u8 bn).wf = true) (hbw : (Lit.int .i64 bend).wf = true)
    (hcap : ∀ a n c, rv = .slice a n c → n ≤ c) (hraw : raw.length ≤ 140737488355328)
    (hr : ∀ y, Below W.heap.size W y → Reads y rv raw.length (bts raw)) (ha : ∀ y, Below W.heap.size W y → Reads y av ks.length (intsC ks)) :
    Calls Try.prog 5 #[.int .i64 s, .int .i64 g, .int .i64 i, .int .i64 seed, .int .i64 bend, rv, .int .i64 how, av, .int .u8 bn] W fun e w' => e = .returned (.bool true) ∧ Below W.heap.size W w' := by
  obtain ⟨b, rfl⟩ := u8_of hbn
  obtain ⟨ra, rc, rfl⟩ := reads_shape (hr W (Below.refl _ W))
  obtain ⟨aa, ac, rfl⟩ := reads_shape (ha W (Below.refl _ W))
  have hb2 : -9223372036854775808 ≤ bend ∧ bend < 9223372036854775808 := by
    have h2 : IntKind.i64.min ≤ bend ∧ bend ≤ IntKind.i64.max := by simpa [Lit.wf] using hbw
    rw [show IntKind.i64.min = -9223372036854775808 by decide, show IntKind.i64.max = 9223372036854775807 by decide] at h2
    omega
  exact lays_walk s g i seed bend how b ra aa rc ac raw ks W hb2.1 hb2.2 hraw (hcap _ _ _ rfl) hr ha
end Go.Proofs.Ytdkhgkkdnjejmaa.Ch
