/-
  ChunkPuts: what is known at a round's begin; the pieces of any stripe; the acts that came in.
-/
import Derived.Test.YtdkhgkkdnjejmaaPuF
import Derived.Test.YtdkhgkkdnjejmaaLrB
namespace Go.Proofs.Ytdkhgkkdnjejmaa.Ch
set_option linter.unusedSimpArgs false
open Go Go.RowKit Go.Sl Go.BigFrame
set_option linter.unusedVariables false

structure Ps (q : Pt) (r : Rt) (i : Nat) : Prop where
  alike : Alike q r
  len : q.now.length = 96
  dlen : q.done.length = 96
  pend : q.pend.length ≤ i
  w0 : 0 ≤ q.writes
  w1 : q.writes ≤ i
  small : ∀ l ∈ q.now, l.length < 1000000
  dsmall : ∀ l ∈ q.done, l.length < 1000000
  pok : ∀ x ∈ q.pend, x.1 < 96 ∧ x.2.length < 1000000
theorem Ps.next {q : Pt} {r : Rt} {i : Nat} (h : Ps q r i) : Ps q r (i + 1) := ⟨h.alike, h.len, h.dlen, by have := h.pend; omega, h.w0, by have := h.w1; omega, h.small, h.dsmall, h.pok⟩
theorem Ps.fl {q : Pt} {r : Rt} {i : Nat} (h : Ps q r i) : Ps q.fl r.fl i := ⟨h.alike.fl, h.len, h.len, Nat.zero_le _, h.w0, h.w1, h.small, h.small, fun x hx => by simp [Pt.fl] at hx⟩
theorem crashTo_small {keep : List Int} {d : List (List UInt8)} {pend : List (Nat × List UInt8)} (hd : ∀ l ∈ d, l.length < 1000000) (hp : ∀ x ∈ pend, x.2.length < 1000000) : ∀ k, ∀ l ∈ crashTo keep d pend k, l.length < 1000000
  | 0, l, h => hd l h
  | k + 1, l, h => by
    unfold crashTo at h
    split at h
    · rename_i x hx
      split at h
      · rcases List.mem_or_eq_of_mem_set h with h | h
        · exact crashTo_small hd hp k l h
        · rw [h]; exact hp x (List.mem_of_getElem? hx)
      · exact crashTo_small hd hp k l h
    · exact crashTo_small hd hp k l h
theorem Ps.crash {q : Pt} {r : Rt} {i : Nat} (h : Ps q r i) (keep : List Int) : Ps (q.crash keep) (r.crash keep) i := by
  have hs := crashTo_small (keep := keep) h.dsmall (fun x hx => (h.pok x hx).2) q.pend.length
  have hl : (crashTo keep q.done q.pend q.pend.length).length = 96 := by rw [crashTo_length, h.dlen]
  exact ⟨h.alike.crash keep, hl, hl, Nat.zero_le _, h.w0, h.w1, hs, hs, fun x hx => by simp [Pt.crash] at hx⟩
theorem Ps.wr {q : Pt} {r : Rt} {i : Nat} (h : Ps q r i) (k : Nat) (l : List UInt8) (hk : k < 96) (hl : l.length < 1000000) : Ps (q.wr k l) (r.wr k l) (i + 1) := by
  refine ⟨h.alike.wr k l, ?_, h.dlen, ?_, ?_, ?_, now_small h.small hl, h.dsmall, fun x hx => ?_⟩
  · show (q.now.set k l).length = 96
    rw [List.length_set, h.len]
  · show (q.pend ++ [(k, l)]).length ≤ i + 1
    have := h.pend
    simp
    omega
  · show 0 ≤ q.writes + 1
    have := h.w0
    omega
  · show q.writes + 1 ≤ ((i + 1 : Nat) : Int)
    have := h.w1
    omega
  · have hx : x ∈ q.pend ++ [(k, l)] := hx
    rcases List.mem_append.1 hx with hx | hx
    · exact h.pok x hx
    · rw [List.mem_singleton] at hx
      rw [hx]
      exact ⟨hk, hl⟩
theorem Ps.start : Ps ⟨List.replicate 96 zero160, List.replicate 96 zero160, [], 0⟩ ⟨List.replicate 96 zero160, [], 0⟩ 0 := by
  have hz : ∀ l ∈ List.replicate 96 zero160, l.length < 1000000 := fun l hl => by
    rw [(List.mem_replicate.1 hl).2]
    simp [zero160]
  exact ⟨Alike.start 96, List.length_replicate, List.length_replicate, Nat.le_refl _, by decide, by decide, hz, hz, fun x hx => by simp at hx⟩

theorem piece0_right (s g i seed : Int) : rightP (handPiece s g i seed 0) := by
  have e : handPick 0 24 = 0 := by decide
  have e2 : handPiece s g i seed 0 = ⟨handPick s 40, 1 + handPick g 9, handPick i 6, bytesOf seed 32⟩ := by
    simp only [handPiece, e]
    rfl
  rw [e2]
  obtain ⟨h0, h1⟩ := handPick_bounds s 40 (by omega)
  obtain ⟨g0, g1⟩ := handPick_bounds g 9 (by omega)
  obtain ⟨i0, i1⟩ := handPick_bounds i 6 (by omega)
  exact ⟨h0, h1, by show (1 : Int) ≤ 1 + _; omega, by show 1 + _ ≤ (1099511627776 : Int); omega, i0, i1, bytesOf_length _ _⟩

noncomputable def getZ (q : Pt) (s : Int) : List Pc := if s < 0 then [] else getL q s
theorem get_all (b : Nat) (q : Pt) (A : List Atom) (s : Int) (W w : World) (L : List Atom) (hq : PtA b q A) (hs : Sat W w (A ++ L)) (h1 : s < 40) (h80 : 80 ≤ q.now.length) (hl : ∀ l ∈ q.now, l.length < 1000000) :
    Calls Try.prog 33 #[.pointer (some ⟨b, 0, none⟩), .int .i64 s] w fun e w' => ∃ v xs R B, e = .returned v ∧ RowA 45 4 v xs.length (pcsC xs) R ∧ xs.map Prod.fst = getZ q s ∧ PcBl B xs ∧ Sat W w' (R ++ (B ++ (A ++ L))) := by
  by_cases h0 : s < 0
  · refine (get_none _ s w (.inr ⟨⟨b, rfl⟩, .inl h0⟩)).mono ?_
    rintro r w2 ⟨rfl, rfl⟩
    exact ⟨_, [], [], [], rfl, RowA.nil _ _, by unfold getZ; rw [if_pos h0]; rfl, (fun x hx => by simp at hx), hs⟩
  · unfold getZ
    rw [if_neg h0]
    exact get_any b q A s W w L hq hs (by omega) h1 h80 hl
theorem pieces_all (b : Nat) (q : Pt) (r : Rt) (A : List Atom) (s : Int) (W w : World) (L : List Atom) (hq : RtA b r A) (ha : Alike q r) (hs : Sat W w (A ++ L)) (h1 : s < 40) (h80 : 80 ≤ q.now.length) (hl : ∀ l ∈ q.now, l.length < 1000000) (hpl : r.pend.length < 900000) :
    Calls Try.prog 50 #[.pointer (some ⟨b, 0, none⟩), .int .i64 s] w fun e w' => ∃ v xs R B, e = .returned v ∧ RowA 45 4 v xs.length (pcsC xs) R ∧ xs.map Prod.fst = getZ q s ∧ PcBl B xs ∧ Sat W w' (R ++ (B ++ (A ++ L))) := by
  by_cases h0 : s < 0
  · refine (ref_pieces_none b s w (.inl h0)).mono ?_
    rintro r w2 ⟨rfl, rfl⟩
    exact ⟨_, [], [], [], rfl, RowA.nil _ _, by unfold getZ; rw [if_pos h0]; rfl, (fun x hx => by simp at hx), hs⟩
  · unfold getZ
    rw [if_neg h0]
    exact ref_pieces b q r A s W w L hq ha hs (by omega) h1 h80 hl hpl
theorem getZ_len (q : Pt) (s : Int) : (getZ q s).length ≤ 2 := by
  unfold getZ
  split
  · exact Nat.zero_le _
  · unfold getL
    rw [srt_length]
    exact getN_len q s 2

/-- The acts that came in, whole. -/
def Acts8 (y : World) (a : Option Addr) (xs : List ActR) : Prop := ∀ (j : Nat) (x : ActR), xs[j]? = some x → ∃ b o ka kn kc ra rn rc, a = some ⟨b, o, none⟩ ∧
  y.cell? ⟨b, o + j * 8, none⟩ = some (.int .i64 x.what) ∧ y.cell? ⟨b, o + j * 8 + 1, none⟩ = some (.int .i64 x.stripe) ∧ y.cell? ⟨b, o + j * 8 + 2, none⟩ = some (.int .i64 x.gen) ∧
  y.cell? ⟨b, o + j * 8 + 3, none⟩ = some (.int .i64 x.index) ∧ y.cell? ⟨b, o + j * 8 + 4, none⟩ = some (.int .i64 x.seed) ∧ y.cell? ⟨b, o + j * 8 + 5, none⟩ = some (.int .i64 x.bend) ∧
  (-9223372036854775808 ≤ x.bend ∧ x.bend < 9223372036854775808) ∧ y.cell? ⟨b, o + j * 8 + 6, none⟩ = some (.slice ka kn kc) ∧ y.cell? ⟨b, o + j * 8 + 7, none⟩ = some (.slice ra rn rc) ∧
  Reads y (.slice ka kn kc) x.keep.length (intsC x.keep) ∧ x.keep.length ≤ maxLen
theorem Acts8.below {W y : World} {a : Option Addr} {xs : List ActR} (h : Acts8 W a xs) (hy : Below W.heap.size W y) : Acts8 y a xs := fun j x hj => by
  have key : ∀ {p : Addr} {v : Value}, W.cell? p = some v → y.cell? p = some v := fun {p v} hc => by
    rw [hy.cell (World.block_lt_of_cell? _ _ hc), hc]
  obtain ⟨b, o, ka, kn, kc, ra, rn, rc, ha, h0, h1, h2, h3, h4, h5, hb, h6, h7, h8, h9⟩ := h j x hj
  exact ⟨b, o, ka, kn, kc, ra, rn, rc, ha, key h0, key h1, key h2, key h3, key h4, key h5, hb, key h6, key h7, reads_below h8 hy, h9⟩
end Go.Proofs.Ytdkhgkkdnjejmaa.Ch
