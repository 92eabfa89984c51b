
/-
  chunk.Right, Place.
  chunk.Lay.
  chunk.Read.
  chunk.Same.
  Rows of blocks; appends at any type; slices.Clone of blocks; platter.blank.
  The platter: New, Blocks, Read, Write, Flush.
  The platter: Read, Write, Flush.
  The platter: Flush; slices.Contains at ints.
-/
import Derived.Test.YtekbbpfnkbanjaaMA
import Derived.Test.YtekbbpfnkbanjaaMS
namespace Go.Proofs.Ytekbbpfnkbanjaa.Ch
set_option linter.unusedSimpArgs false
open Go Go.RowKit Go.Sl Go.BigFrame
set_option linter.unusedVariables false

/-- A piece. -/
structure Pc where
  stripe : Int
  gen : Int
  index : Int
  data : List UInt8
def pcV (p : Pc) (v : Value) : Value := .agg #[.int .i64 p.stripe, .int .i64 p.gen, .int .i64 p.index, v]
def pcCells (p : Pc) (v : Value) : List Value := [.int .i64 p.stripe, .int .i64 p.gen, .int .i64 p.index, v]
def pc0 : Pc := ⟨0, 0, 0, []⟩

/-- chunk.Right. -/
def rightP (p : Pc) : Prop := 0 ≤ p.stripe ∧ p.stripe < 40 ∧ 1 ≤ p.gen ∧ p.gen ≤ 1099511627776 ∧ 0 ≤ p.index ∧ p.index < 6 ∧ p.data.length = 32
noncomputable instance : DecidablePred rightP := fun p => Classical.propDecidable _

/-- chunk.Place. -/
def placeI (s g : Int) : Int := 2 * s + g % 2
theorem and_one (g : Int) : bits .and .i64 g 1 = g % 2 := by
  show IntKind.i64.wrap ((BitVec.ofInt 64 g &&& BitVec.ofInt 64 1).toNat : Int) = _
  have h1 : (BitVec.ofInt 64 1).toNat = 1 := by decide
  have h2 : ((BitVec.ofInt 64 g).toNat : Int) = g % 18446744073709551616 := by
    rw [BitVec.toNat_ofInt]
    have := Int.emod_nonneg g (show (18446744073709551616 : Int) ≠ 0 by decide)
    rw [show ((2 ^ 64 : Nat) : Int) = 18446744073709551616 from rfl]
    omega
  rw [BitVec.toNat_and, h1, Nat.and_one_is_mod]
  have h3 : (((BitVec.ofInt 64 g).toNat % 2 : Nat) : Int) = g % 2 := by omega
  rw [h3]
  have b1 : 0 ≤ g % 2 := Int.emod_nonneg _ (by decide)
  have b2 : g % 2 < 2 := Int.emod_lt_of_pos _ (by decide)
  exact IntWalk.i64_in _ (by omega)
end Go.Proofs.Ytekbbpfnkbanjaa.Ch

namespace Go.Proofs.Ytekbbpfnkbanjaa.Ch
set_option linter.unusedSimpArgs false
open Go Go.RowKit Go.Sl Go.BigFrame
set_option linter.unusedVariables false

/-- A piece's bytes; its block. -/
def pieceB (p : Pc) : List UInt8 := [bytesB p.stripe 1, bytesB p.gen 6, bytesB p.index 1, p.data].flatten
def layB (p : Pc) : List UInt8 := sealB 1 (pieceB p)
theorem pieceB_length (p : Pc) : (pieceB p).length = 8 + p.data.length := by
  simp [pieceB, bytesB_length]; omega
theorem layB_length (p : Pc) (h : p.data.length = 32) : (layB p).length = 160 := sealB_length _ _ (by rw [pieceB_length]; omega)
theorem reads_cells {W w : World} {L : List Atom} {b : Nat} {cs : Array Value} {T : TypeId} (hs : Sat W w L) (hm : cellsA b cs T ∈ L) (n c : Nat) (xs : List Value) (h : cs.toList = xs) : Reads w (.slice (some ⟨b, 0, none⟩) n c) n xs := by
  refine .inr ⟨_, _, rfl, fun j u hu => ?_⟩
  rw [add_row, hs.cell hm, ← h] at *
  simpa using hu

end Go.Proofs.Ytekbbpfnkbanjaa.Ch

namespace Go.Proofs.Ytekbbpfnkbanjaa.Ch
set_option linter.unusedSimpArgs false
open Go Go.RowKit Go.Sl Go.BigFrame
set_option linter.unusedVariables false

/-- chunk.Read: the piece of a block, if it is one. -/
def pieceOf (b : List UInt8) : Pc := ⟨(b.getD 0 0).toNat, numB ((b.drop 1).take 6), (b.getD 7 0).toNat, b.drop 8⟩
noncomputable def readB (b : List UInt8) : Option Pc :=
  if (openB b).2.2 = 0 ∧ (openB b).1 = 1 ∧ (openB b).2.1.length = 40 then
    if rightP (pieceOf (openB b).2.1) then some (pieceOf (openB b).2.1) else none
  else none
noncomputable def readP (b : List UInt8) : Pc := (readB b).getD pc0

theorem add_off (g o i : Nat) (sp : Option Nat) (hi : 0 < i) (j : Nat) : (⟨g, o + i, none⟩ : Addr).add j = (⟨g, o, sp⟩ : Addr).add (i + j) := by
  rw [add_row]
  unfold Addr.add
  rw [if_neg (by omega), Nat.add_assoc]
end Go.Proofs.Ytekbbpfnkbanjaa.Ch

namespace Go.Proofs.Ytekbbpfnkbanjaa.Ch
set_option linter.unusedSimpArgs false
open Go Go.RowKit Go.Sl Go.BigFrame
set_option linter.unusedVariables false

noncomputable instance : DecidableEq Pc := fun _ _ => Classical.propDecidable _
end Go.Proofs.Ytekbbpfnkbanjaa.Ch

namespace Go.Proofs.Ytekbbpfnkbanjaa.Ch
set_option linter.unusedSimpArgs false
open Go Go.RowKit Go.Sl Go.BigFrame
set_option linter.unusedVariables false

/-- append at any type of elements. -/
theorem wp_append_g {W w : World} {F A : List Atom} {v sv : Value} {o : Oper} {a : Act} {K : Act → World → Prop} {Q : Exit → Act → World → Prop} {t e : TypeId} {size bytes : Nat} {z : Value} (hu : Try.prog.underlying t = some (.slice e)) (hinf : (Try.prog.info? e).map (fun i => (i.zero, i.size, i.bytes)) = some (some z, size, bytes)) (hzs : z.cells.size = size) (hsz : 0 < size) (hby : bytes ≤ 1000)
    {x y : Operand} (ho : o.op = .call { callee := .builtin .append, args := #[x, y], argTypes := #[t, t] }) {n m : Nat} {xs ys : List Value} (hv : a.eval x = v) (hsv : a.eval y = sv)
    (hr : RowA e size v n xs A) (hs : Sat W w (A ++ F)) (hsrc : Reads w sv m ys) (hl : ys.length = m * size) (h1 : ∀ u ∈ ys, u.oneCell' = true) (hb : n + m < 1000000)
    (h : ∀ v' w' A', RowA e size v' (n + m) (xs ++ ys) A' → Sat W w' (A' ++ F) → K (a.put o.dst v') w') : o.wp Try.prog a w K Q := by
  obtain ⟨i0, hi, hz0, hz1, hz2⟩ := info_parts hinf
  obtain ⟨v2, w2, R2, hra, hrow, hs2⟩ := append_sl (P := Try.prog) o.type hu hi hz0 hz1 hz2 hzs hsz hr hs hsrc hl h1 (by unfold maxLen; omega) (by
    have : (n + m) * bytes ≤ 1000000 * 1000 := Nat.mul_le_mul (by omega) hby
    omega)
  exact wp_append ho (by rw [hv, hsv]; exact hra) (h _ _ _ hrow hs2)
theorem infoBl : (Try.prog.info? 32).map (fun i => (i.zero, i.size, i.bytes)) = some (some (.slice none 0 0), 1, 24) := by kernel_rfl
/-- The value is a block among B, with bytes l. -/
def BlkIn (B : List Atom) (v : Value) (l : List UInt8) : Prop :=
  ∃ g off cap, v = .slice (some ⟨g, off, none⟩) l.length cap ∧ l.length ≤ cap ∧ (g, rowP 5 off (cap * 1) (bts l)) ∈ B
theorem BlkIn.mono {B B' : List Atom} {v : Value} {l : List UInt8} (h : BlkIn B v l) (hs : ∀ x ∈ B, x ∈ B') : BlkIn B' v l := by
  obtain ⟨g, off, cap, h1, h2, h3⟩ := h
  exact ⟨g, off, cap, h1, h2, hs _ h3⟩
theorem BlkIn.reads {W y : World} {B L : List Atom} {v : Value} {l : List UInt8} (h : BlkIn B v l) (hs : Sat W y L) (hb : ∀ x ∈ B, x ∈ L) : Reads y v l.length (bts l) := by
  obtain ⟨g, off, cap, h1, h2, h3⟩ := h
  obtain ⟨o, ho, hp⟩ := hs.get (hb _ h3)
  refine .inr ⟨_, _, h1, fun j u hu => ?_⟩
  have hj := (List.getElem?_eq_some_iff.1 hu).1
  rw [add_row, (hp.cell ho j hj).1, hu]
theorem BlkIn.one {B : List Atom} {v : Value} {l : List UInt8} (h : BlkIn B v l) : v.oneCell' = true := by
  obtain ⟨g, off, cap, h1, h2, h3⟩ := h
  rw [h1]; rfl
theorem BlkIn.of_row {v : Value} {l : List UInt8} {R : List Atom} (h : RowA 5 1 v l.length (bts l) R) (hl : 0 < l.length) : BlkIn R v l := by
  rcases h.2 with ⟨_, h2, _⟩ | ⟨g, off, cap, h1, h2, h3, rfl⟩
  · omega
  · exact ⟨g, off, cap, h1, h2, List.mem_singleton.2 rfl⟩
/-- Values that are blocks. -/
structure Blks (B : List Atom) (vs : List Value) (ls : List (List UInt8)) : Prop where
  len : vs.length = ls.length
  at_ : ∀ (k : Nat) (v : Value) (l : List UInt8), vs[k]? = some v → ls[k]? = some l → BlkIn B v l
theorem Blks.mono {B B' : List Atom} {vs : List Value} {ls : List (List UInt8)} (h : Blks B vs ls) (hs : ∀ x ∈ B, x ∈ B') : Blks B' vs ls := ⟨h.len, fun k v l h1 h2 => (h.at_ k v l h1 h2).mono hs⟩
theorem Blks.nil (B : List Atom) : Blks B [] [] := ⟨rfl, fun k v l h => by simp at h⟩
theorem Blks.one {B : List Atom} {vs : List Value} {ls : List (List UInt8)} (h : Blks B vs ls) : ∀ u ∈ vs, u.oneCell' = true := fun u hu => by
  obtain ⟨k, hk, rfl⟩ := List.getElem_of_mem hu
  exact (h.at_ k _ _ (List.getElem?_eq_getElem hk) (List.getElem?_eq_getElem (by rw [← h.len]; exact hk))).one
theorem Blks.get {B : List Atom} {vs : List Value} {ls : List (List UInt8)} (h : Blks B vs ls) {k : Nat} {l : List UInt8} (hk : ls[k]? = some l) : ∃ v, vs[k]? = some v ∧ BlkIn B v l := by
  have hlt := (List.getElem?_eq_some_iff.1 hk).1
  exact ⟨_, List.getElem?_eq_getElem (by rw [h.len]; exact hlt), h.at_ k _ _ (List.getElem?_eq_getElem (by rw [h.len]; exact hlt)) hk⟩
theorem Blks.snoc {B : List Atom} {vs : List Value} {ls : List (List UInt8)} {v : Value} {l : List UInt8} (h : Blks B vs ls) (hv : BlkIn B v l) : Blks B (vs ++ [v]) (ls ++ [l]) := by
  refine ⟨by simp [h.len], fun k u m h1 h2 => ?_⟩
  by_cases hk : k < vs.length
  · rw [List.getElem?_append_left hk] at h1
    rw [List.getElem?_append_left (by rw [← h.len]; exact hk)] at h2
    exact h.at_ k u m h1 h2
  · rw [List.getElem?_append_right (by omega)] at h1
    rw [List.getElem?_append_right (by rw [← h.len]; omega), ← h.len] at h2
    generalize k - vs.length = j at *
    cases j with
    | zero => simp at h1 h2; subst h1; subst h2; exact hv
    | succ j => simp at h1
theorem Blks.set {B : List Atom} {vs : List Value} {ls : List (List UInt8)} {v : Value} {l : List UInt8} (h : Blks B vs ls) (k : Nat) (hv : BlkIn B v l) : Blks B (vs.set k v) (ls.set k l) := by
  refine ⟨by simp [h.len], fun j u m h1 h2 => ?_⟩
  by_cases e : k = j
  · subst e
    rw [List.getElem?_set] at h1 h2
    simp only [if_true] at h1 h2
    split at h1 <;> split at h2 <;> simp at h1 h2
    subst h1; subst h2; exact hv
  · rw [List.getElem?_set_ne e] at h1 h2
    exact h.at_ j u m h1 h2

theorem none_rowT (T : TypeId) (size n : Nat) : RowA T size (.slice (some ⟨n, 0, none⟩) 0 0) 0 [] [(n, rowP T 0 (0 * size) [])] :=
  ⟨by simp, .inr ⟨_, _, _, rfl, Nat.le_refl _, Nat.zero_le _, rfl⟩⟩
theorem none_satT {W w : World} {L : List Atom} (hs : Sat W w L) (T : TypeId) (size : Nat) : Sat W (w.alloc (.cells #[] T)) ([(w.heap.size, rowP T 0 (0 * size) [])] ++ L) :=
  hs.new (.cells #[] T) ⟨#[], rfl, by simp, by simp, by simp⟩

def zero160 : List UInt8 := List.replicate 160 0
end Go.Proofs.Ytekbbpfnkbanjaa.Ch

namespace Go.Proofs.Ytekbbpfnkbanjaa.Ch
set_option linter.unusedSimpArgs false
open Go Go.RowKit Go.Sl Go.BigFrame
set_option linter.unusedVariables false

/-- A platter: what is flushed, what is read, what pends, how many writes. -/
structure Pt where
  done : List (List UInt8)
  now : List (List UInt8)
  pend : List (Nat × List UInt8)
  writes : Int
def pendC : List Nat → List Value → List Value
  | k :: ks, v :: vs => .int .i64 k :: v :: pendC ks vs
  | _, _ => []
theorem pendC_length : ∀ (ks : List Nat) (vs : List Value), ks.length = vs.length → (pendC ks vs).length = ks.length * 2
  | [], [], _ => rfl
  | k :: ks, v :: vs, h => by
    simp only [pendC, List.length_cons] at *
    rw [pendC_length ks vs (by omega)]
    omega
  | [], _ :: _, h => by simp at h
  | _ :: _, [], h => by simp at h
theorem pendC_snoc : ∀ (ks : List Nat) (vs : List Value) (k : Nat) (v : Value), ks.length = vs.length → pendC ks vs ++ [.int .i64 k, v] = pendC (ks ++ [k]) (vs ++ [v])
  | [], [], _, _, _ => rfl
  | k :: ks, v :: vs, k', v', h => by
    simp only [pendC, List.cons_append]
    rw [pendC_snoc ks vs k' v' (by simpa using h)]
  | [], _ :: _, _, _, h => by simp at h
  | _ :: _, [], _, _, h => by simp at h
theorem pendC_get : ∀ (ks : List Nat) (vs : List Value) (j k : Nat) (v : Value), ks[j]? = some k → vs[j]? = some v → (pendC ks vs)[j * 2]? = some (.int .i64 k) ∧ (pendC ks vs)[j * 2 + 1]? = some v
  | k :: ks, v :: vs, 0, _, _, h1, h2 => by
    simp at h1 h2
    subst h1; subst h2
    exact ⟨rfl, rfl⟩
  | k :: ks, v :: vs, j + 1, k', v', h1, h2 => by
    have := pendC_get ks vs j k' v' (by simpa using h1) (by simpa using h2)
    rw [Nat.add_mul]
    exact this
  | [], _, _, _, _, h1, _ => by simp at h1
  | _ :: _, [], _, _, _, _, h2 => by simp at h2

end Go.Proofs.Ytekbbpfnkbanjaa.Ch

namespace Go.Proofs.Ytekbbpfnkbanjaa.Ch
set_option linter.unusedSimpArgs false
open Go Go.RowKit Go.Sl Go.BigFrame
set_option linter.unusedVariables false

theorem RowA.some_of {e : TypeId} {size n : Nat} {v : Value} {xs : List Value} {R : List Atom} (h : RowA e size v n xs R) (hn : 0 < n) : ∃ g off cap, v = .slice (some ⟨g, off, none⟩) n cap ∧ n ≤ cap ∧ cap ≤ maxLen ∧ R = [(g, rowP e off (cap * size) xs)] := by
  rcases h.2 with ⟨_, h2, _⟩ | h
  · omega
  · exact h

def Pt.wr (p : Pt) (k : Nat) (l : List UInt8) : Pt := ⟨p.done, p.now.set k l, p.pend ++ [(k, l)], p.writes + 1⟩
end Go.Proofs.Ytekbbpfnkbanjaa.Ch

namespace Go.Proofs.Ytekbbpfnkbanjaa.Ch
set_option linter.unusedSimpArgs false
open Go Go.RowKit Go.Sl Go.BigFrame
set_option linter.unusedVariables false

def Pt.fl (p : Pt) : Pt := ⟨p.now, p.now, [], p.writes⟩
/-- Ints as cells. -/
def intsC (l : List Int) : List Value := l.map fun n => .int .i64 n
theorem intsC_length (l : List Int) : (intsC l).length = l.length := by simp [intsC]
theorem intsC_get {l : List Int} {k : Nat} {n : Int} (h : l[k]? = some n) : (intsC l)[k]? = some (.int .i64 n) := by rw [intsC, List.getElem?_map, h]; rfl
theorem intsC_one (l : List Int) : ∀ u ∈ intsC l, u.oneCell' = true := fun u hu => by obtain ⟨x, _, rfl⟩ := List.mem_map.1 hu; rfl
def idxI (l : List Int) (n : Int) : Int := if n ∈ l then (l.idxOf n : Int) else -1

end Go.Proofs.Ytekbbpfnkbanjaa.Ch
