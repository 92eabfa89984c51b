/-
  A map that is owned and ranged over by a round that leaves it alone: 'iterA r b c seen': block r is an iterator over block b's map, begun at clock c, that has handed out the entries of the stamps seen; the laws of range, next and entry.
-/
import Derived.Test.YtdkhgkkdnjejmaaSlMap
import Derived.Maps.RangeRun
namespace Go.Sl
set_option linter.unusedVariables false
set_option linter.unusedSimpArgs false
open Go Go.RowKit

/-- The map in block b has exactly these entries. -/
def mapE (b : Nat) (es : Array MapEntry) (clock : Nat) : Atom := (b, fun o => o = .map es clock)
def iterA (r b clock : Nat) (seen : Array Nat) : Atom := (r, fun o => o = .mapIter (some b) clock seen clock)

section
variable {W w : World} {L : List Atom} {d : TypeDesc} {f : Value → Option Value} {n b r : Nat}

theorem Sat.openMap (h : Sat W w (mapA b d f n :: L)) : ∃ es clock, MapOk d es clock f n ∧ Sat W w (mapE b es clock :: L) := by
  obtain ⟨o, ho, es, clock, rfl, hm⟩ := h.head
  exact ⟨es, clock, hm, h.turn (Inert.refl w) (fun _ _ _ => rfl) ⟨_, ho, rfl⟩⟩

theorem Sat.shutMap {es : Array MapEntry} {clock : Nat} (hm : MapOk d es clock f n) (h : Sat W w (mapE b es clock :: L)) : Sat W w (mapA b d f n :: L) := by
  obtain ⟨o, ho, rfl⟩ := h.head
  exact h.turn (Inert.refl w) (fun _ _ _ => rfl) ⟨_, ho, es, clock, rfl, hm⟩

theorem range_sl {P : Program} {es : Array MapEntry} {clock : Nat} {t k e : TypeId} (ht : P.underlying t = some (.map k e)) (h : Sat W w (mapE b es clock :: L)) :
    (Instr.range t (.map (some b))).run P w = .ok (.pointer (some ⟨w.heap.size, 0, none⟩)) (w.alloc (.mapIter (some b) clock #[] clock)) ∧
      Sat W (w.alloc (.mapIter (some b) clock #[] clock)) (iterA w.heap.size b clock #[] :: mapE b es clock :: L) := by
  obtain ⟨o, ho, rfl⟩ := h.head
  exact ⟨run_range_map w t k e b es clock ht ho, h.new _ rfl⟩

theorem heap_setBlock (w : World) (r : Nat) (o : Obj) (k : Nat) (h : k ≠ r) : (ChangeMaps.setBlock w r o).heap[k]? = w.heap[k]? := by
  simp only [ChangeMaps.setBlock, Array.getElem?_setIfInBounds]
  rw [if_neg (Ne.symm h)]

theorem next_sl {P : Program} {es : Array MapEntry} {clock : Nat} {seen : Array Nat} (ty : TypeId) (hm : MapOk d es clock f n) (h : Sat W w (iterA r b clock seen :: mapE b es clock :: L)) :
    ((leftOf es seen).size = 0 ∧ (Instr.next (.pointer (some ⟨r, 0, none⟩)) false ty).run P w = .ok (.tuple #[.bool false]) w) ∨
    ∃ e ∈ (leftOf es seen).toList, ∃ w', (Instr.next (.pointer (some ⟨r, 0, none⟩)) false ty).run P w = .ok (.tuple #[.bool true, e.key, e.val]) w' ∧
      Sat W w' (iterA r b clock (seen.push e.born) :: mapE b es clock :: L) := by
  obtain ⟨o, ho, rfl⟩ := h.head
  obtain ⟨o', ho', rfl⟩ := h.tail.head
  have hlt := h.lt m0
  rcases run_next_at (P := P) w ty r b clock clock seen es clock ho ho' hm.young (Nat.le_refl _) with h0 | ⟨e, he, w1, hw1, hr⟩
  · exact .inl h0
  · refine .inr ⟨e, he, _, hr, h.turn ?_ (fun k hk hne => ?_) ⟨_, ?_, rfl⟩⟩
    · rcases hw1 with rfl | rfl <;> exact ⟨rfl, rfl, rfl, by simp [ChangeMaps.setBlock]⟩
    · rw [heap_setBlock _ _ _ _ hne]
      rcases hw1 with rfl | rfl <;> rfl
    · have : r < w1.heap.size := by rcases hw1 with rfl | rfl <;> exact hlt
      simp [ChangeMaps.setBlock, this]

theorem entry_sl {P : Program} {es : Array MapEntry} {clock : Nat} {seen : Array Nat} {e : MapEntry} (hm : MapOk d es clock f n) (he : e ∈ (leftOf es seen).toList)
    (h : Sat W w (iterA r b clock (seen.push e.born) :: mapE b es clock :: L)) : (Instr.entry (.pointer (some ⟨r, 0, none⟩))).run P w = .ok (.tuple #[e.key, e.val]) w := by
  obtain ⟨o, ho, rfl⟩ := h.head
  obtain ⟨o', ho', rfl⟩ := h.tail.head
  exact run_entry_at w r b clock seen es clock e ho ho' (mem_left he).1 hm.stamps

theorem Sat.iterSeen {clock : Nat} {seen : Array Nat} (h : Sat W w (iterA r b clock seen :: L)) : w.iterSeen r = seen := by
  obtain ⟨o, ho, rfl⟩ := h.head
  simp [World.iterSeen, ho]
end
end Go.Sl
