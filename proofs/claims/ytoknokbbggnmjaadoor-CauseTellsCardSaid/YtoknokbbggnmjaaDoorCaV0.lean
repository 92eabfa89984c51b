/-
  Chapter 1's laws: grow: what a round leaves.
-/
import Derived.Test.YtoknokbbggnmjaaDoorCaU
import Derived.Deep.CutBlock
import Derived.Deep.DeepCutAuto
namespace Go.Proofs.YtoknokbbggnmjaaDoor.Ca
set_option linter.unusedSimpArgs false
open Go Go.RowKit Go.Sl Go.Extern.Stop Go.Stop Go.Extern
set_option linter.unusedVariables false

/-- A row of raw steps that came in, as far as a walk reads it. -/
def RawsAt (W : World) (v : Value) (xs : List (Int × Int)) : Prop :=
  ∃ g c, v = .slice g xs.length c ∧ xs.length ≤ maxLen ∧
    ∀ w, Below W.heap.size W w → ∀ j, j < xs.length → ∃ b o, g = some ⟨b, o, none⟩ ∧ w.cell? ⟨b, o + j * 2, none⟩ = some (.int .i64 (xs.getD j default).1) ∧ w.cell? ⟨b, o + j * 2 + 1, none⟩ = some (.int .i64 (xs.getD j default).2)

def zeroSaid : Array Value := #[.int .i64 0, .slice none 0 0, .int .i64 0, .bool false, .string ⟨#[]⟩]
/-- What grow hands back. -/
def Grown (W : World) (L : List Atom) (r : Ending) (w' : World) : Prop :=
  (r = .returned (.tuple #[.nilIface, .agg zeroSaid]) ∧ Sat W w' L) ∨
    ∃ (p : PT) (T : List Atom), r = .returned (.tuple #[val p.1, .agg (cells5 p).toArray]) ∧ Tells T p ∧ (textE p.1).length < 300 ∧ Sat W w' (T ++ L)

/-- After some rounds. -/
structure GrowAt (W : World) (F : List Atom) (n i : Nat) (ev sv : Value) (w : World) (P : List PT) (Re Rs T : List Atom) : Prop where
  lim : i ≤ 25
  lem : i ≤ n
  row : RowA 27 1 ev P.length (vals P) Re
  rowS : RowA 43 5 sv P.length (flatP P) Rs
  len : P.length ≤ i
  span : span P ≤ 10 * i
  tells : ∀ p ∈ P, Tells T p
  sat : Sat W w (Re ++ (Rs ++ (T ++ F)))

theorem split_at {P : List PT} {f : Nat} (h : f < P.length) : ∃ A x M, P = A ++ x :: M ∧ A.length = f :=
  ⟨P.take f, P[f], P.drop (f + 1), by rw [← List.drop_eq_getElem_cons h, List.take_append_drop], by simp; omega⟩
theorem GrowAt.next {W w w' : World} {F : List Atom} {n i : Nat} {ev sv v2 v4 : Value} {P P' : List PT} {Re Rs T Re2 Rs2 T2 : List Atom} (hg : GrowAt W F n i ev sv w P Re Rs T) (hi : i < 25) (hn : i < n)
    (hlen : P'.length ≤ i + 1) (hsp : Ca.span P' ≤ Ca.span P + 10) (ht : ∀ p ∈ P', Tells T2 p) (hre : RowA 27 1 v2 P'.length (vals P') Re2) (hrs : RowA 43 5 v4 P'.length (flatP P') Rs2) (hs : Sat W w' (Re2 ++ (Rs2 ++ (T2 ++ F)))) :
    GrowAt W F n (i + 1) v2 v4 w' P' Re2 Rs2 T2 :=
  ⟨by omega, by omega, hre, hrs, hlen, by have := hg.span; omega, ht, hs⟩
theorem tells_snoc {T T2 : List Atom} {P : List PT} {p : PT} (h : ∀ q ∈ P, Tells T q) (hT : ∀ x ∈ T, x ∈ T2) (hp : Tells T2 p) : ∀ q ∈ P ++ [p], Tells T2 q := fun q hq => by
  rcases List.mem_append.1 hq with hq | hq
  · exact (h q hq).mono hT
  · rw [List.mem_singleton.1 hq]; exact hp

def firstLoop : Code → Option Code
  | .loop c => some c
  | .seq a b => match firstLoop a with
    | some c => some c
    | none => firstLoop b
  | .block _ c => firstLoop c
  | .scope c => firstLoop c
  | .cond _ a b => match firstLoop a with
    | some c => some c
    | none => firstLoop b
  | _ => none
/-- The loop's body, out of the translation. -/
noncomputable def growBody : Code := ((Tryd.f19.body.bind firstLoop).getD .skip)
/-- The frame at the loop's head. -/
structure FrameOk (lv : Value) (z : Nat) (a : Act) (ev sv : Value) (i : Nat) : Prop where
  d : a.defers = []
  size : a.tmps.size = 238
  s0 : a.tmps.getD 0 undef = lv
  s2 : a.tmps.getD 2 undef = .nilIface
  s3 : a.tmps.getD 3 undef = .pointer (some ⟨z, 0, none⟩)
  s4 : a.tmps.getD 4 undef = ev
  s5 : a.tmps.getD 5 undef = sv
  s6 : a.tmps.getD 6 undef = .int .i64 i
theorem arr_list (t : Array Value) (n : Nat) (h : t.size = n) : t = ((List.range n).map fun k => t.getD k undef).toArray := by
  apply Array.ext
  · simp [h]
  · intro k h1 h2
    simp [h1]

end Go.Proofs.YtoknokbbggnmjaaDoor.Ca
