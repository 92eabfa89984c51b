
/-
  Ownership of blocks, program-independent: 'Sat W0 w L': in world w each block that the list L names holds what L says, no block is named twice, and the streams are those of W0.
  A region that draws its order, walked ONCE, in an order of the prover's choice: operations that only look (and calls that leave all that was there as it is) may float; those that act are met one after another.
  Maps that are owned: 'mapA b k f n': block b is a map of n entries over keys of a plain kind k (an integer's, a string's, a bool's) that gives f; the laws of lookup, store, delete, len, and of the store in two steps.
  A map that is owned and ranged over by a round that leaves it alone: 'iterA r b c seen': block r is an iterator over block b's map, begun at clock c, that has handed out the entries of the stamps seen; the laws of range, next and entry.
  A region that draws its order, where two operations that act may come up in either order: walked in a tree of orders.
-/
import Derived.WalkKit
import Derived.Deep.Draws
import Derived.BigQuiet
import Derived.MapKept
import Derived.Maps.RangeRun
namespace Go.Sl
set_option linter.unusedSimpArgs false
set_option linter.unusedVariables false
open Go Go.RowKit

/-- A block and what is known of the object in it. -/
abbrev Atom := Nat × (Obj → Prop)

/-- Block b is a row of cells, all known. -/
def cellsA (b : Nat) (cs : Array Value) (T : TypeId) : Atom := (b, fun o => o = .cells cs T (0, 0))

structure Inert (W w : World) : Prop where
  os : w.os = W.os
  tape : w.tape = W.tape
  output : w.output = W.output
  size : W.heap.size ≤ w.heap.size

theorem Inert.refl (w : World) : Inert w w := ⟨rfl, rfl, rfl, Nat.le_refl _⟩
theorem Inert.trans {a b c : World} (h : Inert a b) (k : Inert b c) : Inert a c :=
  ⟨k.os.trans h.os, k.tape.trans h.tape, k.output.trans h.output, Nat.le_trans h.size k.size⟩

structure Sat (W w : World) (L : List Atom) : Prop where
  inert : Inert W w
  nodup : (L.map Prod.fst).Nodup
  has : ∀ x ∈ L, ∃ o, w.heap[x.1]? = some o ∧ x.2 o

noncomputable def cnt (x : Atom) (L : List Atom) : Nat := by classical exact L.count x
theorem cnt_nil (x : Atom) : cnt x [] = 0 := by simp [cnt]
theorem cnt_append (x : Atom) (L M : List Atom) : cnt x (L ++ M) = cnt x L + cnt x M := by simp [cnt]
noncomputable def cnt1 (x y : Atom) : Nat := cnt x [y]
theorem cnt_cons (x y : Atom) (L : List Atom) : cnt x (y :: L) = cnt1 x y + cnt x L := by
  rw [cnt1, ← cnt_append]; rfl
theorem cnt_pos {x : Atom} {L : List Atom} : 0 < cnt x L ↔ x ∈ L := by classical simp [cnt, List.count_pos_iff]
theorem perm_of_cnt : ∀ {M L : List Atom}, (∀ x, cnt x M ≤ cnt x L) → ∃ K, (M ++ K).Perm L
  | [], L, _ => ⟨L, .refl _⟩
  | y :: M, L, h => by
    classical
    have hy : y ∈ L := by
      rw [← cnt_pos]
      have h1 := h y
      have h2 : 0 < cnt y (y :: M) := cnt_pos.2 (by simp)
      omega
    have hp := List.perm_cons_erase hy
    obtain ⟨K, hK⟩ := perm_of_cnt (M := M) (L := L.erase y) (by
      intro x
      have h1 := h x
      have h2 : cnt x L = cnt x (y :: L.erase y) := by simp only [cnt]; exact hp.count_eq x
      rw [cnt_cons] at h1
      rw [cnt_cons x y (L.erase y)] at h2
      omega)
    exact ⟨K, (hK.cons y).trans hp.symm⟩

theorem m0 {x : Atom} {L : List Atom} : x ∈ x :: L := .head _
theorem m1 {x a : Atom} {L : List Atom} : x ∈ a :: x :: L := .tail _ m0
theorem m2 {x a b : Atom} {L : List Atom} : x ∈ a :: b :: x :: L := .tail _ m1
theorem m3 {x a b c : Atom} {L : List Atom} : x ∈ a :: b :: c :: x :: L := .tail _ m2
theorem m4 {x a b c d : Atom} {L : List Atom} : x ∈ a :: b :: c :: d :: x :: L := .tail _ m3
theorem m5 {x a b c d e : Atom} {L : List Atom} : x ∈ a :: b :: c :: d :: e :: x :: L := .tail _ m4

section
variable {W w w' : World} {L M : List Atom} {b : Nat} {p : Obj → Prop}

/-- Leave atoms out, put them in another order. -/
theorem Sat.use (h : Sat W w L) (hc : ∀ x, cnt x M ≤ cnt x L) : Sat W w M := by
  obtain ⟨K, hK⟩ := perm_of_cnt hc
  refine ⟨h.inert, ?_, fun x hx => h.has x (hK.subset (List.mem_append_left _ hx))⟩
  have h1 := (hK.map Prod.fst).nodup_iff.2 h.nodup
  rw [List.map_append, List.nodup_append] at h1
  exact h1.1

theorem Sat.get (h : Sat W w L) {b : Nat} {p : Obj → Prop} (hm : (b, p) ∈ L) : ∃ o, w.heap[b]? = some o ∧ p o := h.has _ hm
theorem Sat.lt (h : Sat W w L) {b : Nat} {p : Obj → Prop} (hm : (b, p) ∈ L) : b < w.heap.size := by
  obtain ⟨o, ho, _⟩ := h.has _ hm
  exact (Array.getElem?_eq_some_iff.1 ho).1

theorem Sat.head (h : Sat W w ((b, p) :: L)) : ∃ o, w.heap[b]? = some o ∧ p o := h.get (List.mem_cons_self ..)
theorem Sat.tail {x : Atom} (h : Sat W w (x :: L)) : Sat W w L := h.use fun y => by rw [cnt_cons]; omega
theorem Sat.left (h : Sat W w (L ++ M)) : Sat W w L := h.use fun y => by rw [cnt_append]; omega
theorem Sat.right (h : Sat W w (L ++ M)) : Sat W w M := h.use fun y => by rw [cnt_append]; omega

/-- A row of cells, its cells. -/
theorem Sat.row {cs : Array Value} {T : TypeId} (h : Sat W w L) (hm : cellsA b cs T ∈ L) : w.heap[b]? = some (.cells cs T (0, 0)) := by
  obtain ⟨o, ho, rfl⟩ := h.get hm
  exact ho
theorem cell_at {cs : Array Value} {T : TypeId} {fr : Nat × Nat} (h : w.heap[b]? = some (.cells cs T fr)) (i : Nat) : w.cell? ⟨b, i, none⟩ = cs[i]? := cell_of_row w b i cs T fr h
theorem free_at {cs : Array Value} {T : TypeId} (h : w.heap[b]? = some (.cells cs T (0, 0))) (i : Nat) : w.frozen? ⟨b, i, none⟩ = false := by
  simp [World.frozen?, h]
theorem Sat.cell {cs : Array Value} {T : TypeId} (h : Sat W w L) (hm : cellsA b cs T ∈ L) (i : Nat) : w.cell? ⟨b, i, none⟩ = cs[i]? := cell_at (h.row hm) i
theorem Sat.free {cs : Array Value} {T : TypeId} (h : Sat W w L) (hm : cellsA b cs T ∈ L) (i : Nat) : w.frozen? ⟨b, i, none⟩ = false := free_at (h.row hm) i

/-- Another world in which all blocks of L are as they were. -/
theorem Sat.same (h : Sat W w L) (hi : Inert w w') (hb : ∀ b, b < w.heap.size → (∃ p, (b, p) ∈ L) → w'.heap[b]? = w.heap[b]?) : Sat W w' L :=
  ⟨h.inert.trans hi, h.nodup, fun x hx => by
    obtain ⟨o, ho, hp⟩ := h.has x hx
    exact ⟨o, (hb x.1 (h.lt (p := x.2) hx) ⟨x.2, hx⟩).trans ho, hp⟩⟩

theorem Inert.alloc (w : World) (o : Obj) : Inert w (w.alloc o) := ⟨rfl, rfl, rfl, by simp⟩
theorem Inert.drew (w : World) : Inert w w.drew := ⟨rfl, rfl, rfl, Nat.le_refl _⟩
theorem Inert.setCell (w : World) (a : Addr) (v : Value) : Inert w (w.setCell a v) := ⟨rfl, rfl, rfl, by simp⟩
theorem Inert.grown {row : Option Nat} (h : w.grownBy w' row) : Inert w w' := ⟨h.os, h.tape, h.output, h.size⟩
theorem Inert.below {B : Nat} (h : Below B w w') : Inert w w' := ⟨h.os, h.tape, h.output, h.size⟩

theorem Sat.drew (h : Sat W w L) : Sat W w.drew L := h.same (Inert.drew w) fun _ _ _ => rfl
theorem Sat.drewN (h : Sat W w L) (n : Nat) : Sat W (w.drewN n) L := h.same ⟨rfl, rfl, rfl, Nat.le_refl _⟩ fun _ _ _ => rfl
theorem Sat.alloc (h : Sat W w L) (o : Obj) : Sat W (w.alloc o) L := h.same (Inert.alloc w o) fun b hb _ => Below.heap_alloc w o b hb
theorem Sat.below (h : Sat W w L) (hb : Below w.heap.size w w') : Sat W w' L := h.same (Inert.below hb) fun b hl _ => hb.block b hl

/-- A new block is owned. -/
theorem Sat.new (h : Sat W w L) (o : Obj) {p : Obj → Prop} (hp : p o) : Sat W (w.alloc o) ((w.heap.size, p) :: L) := by
  refine ⟨h.inert.trans (Inert.alloc w o), ?_, fun x hx => ?_⟩
  · rw [List.map_cons, List.nodup_cons]
    refine ⟨fun hm => ?_, h.nodup⟩
    obtain ⟨x, hx, he⟩ := List.mem_map.1 hm
    have := h.lt (p := x.2) hx
    simp only at he
    omega
  · rcases List.mem_cons.1 hx with rfl | hx
    · exact ⟨o, heap_alloc_new w o, hp⟩
    · exact (h.alloc o).has x hx

theorem Sat.newCells (h : Sat W w L) (cs : Array Value) (T : TypeId) : Sat W (w.alloc (.cells cs T)) (cellsA w.heap.size cs T :: L) := h.new _ rfl

/-- One block is turned, all others are as they were. -/
theorem Sat.turn (h : Sat W w ((b, p) :: L)) {p' : Obj → Prop} (hi : Inert w w') (ho : ∀ k, k < w.heap.size → k ≠ b → w'.heap[k]? = w.heap[k]?) (hp : ∃ o, w'.heap[b]? = some o ∧ p' o) : Sat W w' ((b, p') :: L) := by
  have hn := h.nodup
  rw [List.map_cons, List.nodup_cons] at hn
  refine ⟨h.inert.trans hi, ?_, fun x hx => ?_⟩
  · rw [List.map_cons, List.nodup_cons]; exact hn
  · rcases List.mem_cons.1 hx with rfl | hx
    · exact hp
    · obtain ⟨o, hxo, hpo⟩ := h.has x (List.mem_cons_of_mem _ hx)
      refine ⟨o, ?_, hpo⟩
      rw [ho x.1 (h.lt (p := x.2) (List.mem_cons_of_mem _ hx)) (fun e => hn.1 (e ▸ List.mem_map.2 ⟨x, hx, rfl⟩))]
      exact hxo

/-- A new block takes the place of one that is given up (an append that grew). -/
theorem Sat.moved (h : Sat W w L) {g : Nat} {p' : Obj → Prop} (hi : Inert w w') (hg : w.heap.size ≤ g) (ho : ∀ k, k < w.heap.size → (∃ p, (k, p) ∈ L) → w'.heap[k]? = w.heap[k]?) (hp : ∃ o, w'.heap[g]? = some o ∧ p' o) : Sat W w' ((g, p') :: L) := by
  have h' := h.same hi ho
  refine ⟨h'.inert, ?_, fun x hx => ?_⟩
  · rw [List.map_cons, List.nodup_cons]
    refine ⟨fun hm => ?_, h.nodup⟩
    obtain ⟨x, hx, he⟩ := List.mem_map.1 hm
    have := h.lt (p := x.2) hx
    simp only at he
    omega
  · rcases List.mem_cons.1 hx with rfl | hx
    · exact hp
    · exact h'.has x hx

theorem Sat.setCell {cs : Array Value} {T : TypeId} (h : Sat W w (cellsA b cs T :: L)) (i : Nat) (v : Value) : Sat W (w.setCell ⟨b, i, none⟩ v) (cellsA b (cs.setIfInBounds i v) T :: L) := by
  refine h.turn (Inert.setCell w _ v) (fun k _ hk => Below.heap_setCell w _ v k hk) ⟨_, ?_, rfl⟩
  have hr := h.row (List.mem_cons_self ..)
  simp only [World.setCell, Array.getElem?_modify, if_true, hr, Option.map_some]
  rfl

/-- Two owned blocks are two. -/
theorem Sat.ne {b c : Nat} {p q : Obj → Prop} (h : Sat W w ((b, p) :: (c, q) :: L)) : b ≠ c := by
  have hn := h.nodup
  simp only [List.map_cons, List.nodup_cons, List.mem_cons, not_or] at hn
  exact hn.1.1

/-- All blocks of a world, as they are. -/
def allOf (W : World) : List Atom := (List.range W.heap.size).map fun b => (b, fun o => W.heap[b]? = some o)
theorem allOf_sat (W : World) : Sat W W (allOf W) := by
  refine ⟨Inert.refl W, ?_, fun x hx => ?_⟩
  · unfold allOf
    rw [List.map_map]
    have : (Prod.fst ∘ fun b => ((b, fun o => W.heap[b]? = some o) : Atom)) = id := rfl
    rw [this, List.map_id]
    exact List.nodup_range
  · unfold allOf at hx
    obtain ⟨b, hb, rfl⟩ := List.mem_map.1 hx
    have := List.mem_range.1 hb
    exact ⟨W.heap[b], by simp [this], by simp [this]⟩
theorem Sat.below_all (h : Sat W w (L ++ allOf W)) : Below W.heap.size W w :=
  ⟨h.inert.os, h.inert.tape, h.inert.output, h.inert.size, fun k hk => by
    have hm : ((k, fun o => W.heap[k]? = some o) : Atom) ∈ L ++ allOf W :=
      List.mem_append_right _ (List.mem_map.2 ⟨k, List.mem_range.2 hk, rfl⟩)
    obtain ⟨o, ho, hp⟩ := h.get hm
    rw [ho, hp]⟩
end

/-- The worlds in which L is owned. -/
structure Of (W : World) (L : List Atom) : Type where
  v : World
  s : Sat W v L
@[reducible] def Held (W : World) (L : List Atom) (w' : World) : Prop := ∃ y : Of W L, w' = y.v
theorem Held.mk {W w : World} {L : List Atom} (h : Sat W w L) : Held W L w := ⟨⟨w, h⟩, rfl⟩

/-- Of the world at hand P alone is kept. -/
theorem with_world {K : Act → World → Prop} {a : Act} {w : World} (P : World → Prop) (h : P w) (hk : ∀ w', P w' → K a w') : K a w := hk w h

theorem with_sat {K : Act → World → Prop} {a : Act} {W w : World} {L : List Atom} (h : Sat W w L) (hk : ∀ w', Sat W w' L → K a w') : K a w := hk w h

/-! ### rows -/
/-- What a row's block holds: from cell off on, places for len cells, of which the first are xs. -/
def rowP (e : TypeId) (off len : Nat) (xs : List Value) (o : Obj) : Prop :=
  ∃ cur, o = .cells cur e (0, 0) ∧ off + len ≤ cur.size ∧ xs.length ≤ len ∧ (cur.toList.drop off).take xs.length = xs

/-- The slice value v of n elements (size cells each) has the cells xs, in a block of its own (or it is nil). -/
def RowA (e : TypeId) (size : Nat) (v : Value) (n : Nat) (xs : List Value) (A : List Atom) : Prop :=
  xs.length = n * size ∧ ((v = .slice none 0 0 ∧ n = 0 ∧ A = []) ∨
    ∃ g off cap, v = .slice (some ⟨g, off, none⟩) n cap ∧ n ≤ cap ∧ cap ≤ maxLen ∧ A = [(g, rowP e off (cap * size) xs)])

theorem RowA.nil (e : TypeId) (size : Nat) : RowA e size (.slice none 0 0) 0 [] [] := ⟨by simp, .inl ⟨rfl, rfl, rfl⟩⟩

theorem rowP.cell {e : TypeId} {off len : Nat} {xs : List Value} {g : Nat} {w : World} {o : Obj} (ho : w.heap[g]? = some o) (h : rowP e off len xs o) (j : Nat) (hj : j < xs.length) :
    w.cell? ⟨g, off + j, none⟩ = xs[j]? ∧ w.frozen? ⟨g, off + j, none⟩ = false := by
  obtain ⟨cur, rfl, h1, h2, h3⟩ := h
  refine ⟨?_, free_at ho _⟩
  rw [cell_at ho]
  have : ((cur.toList.drop off).take xs.length)[j]? = xs[j]? := by rw [h3]
  rw [List.getElem?_take, if_pos hj, List.getElem?_drop] at this
  rw [← this]
  simp

/-- A slice that is read: where its cells are. -/
def Reads (w : World) (v : Value) (n : Nat) (xs : List Value) : Prop :=
  (v = .slice none 0 0 ∧ n = 0 ∧ xs = []) ∨ ∃ a c, v = .slice (some a) n c ∧ ∀ j u, xs[j]? = some u → w.cell? (a.add j) = some u

theorem add_row (g off j : Nat) : (⟨g, off, none⟩ : Addr).add j = ⟨g, off + j, none⟩ := by
  unfold Addr.add; split <;> simp_all

section
variable {W w w' : World} {F L M : List Atom} {e : TypeId} {size n : Nat} {v : Value} {xs : List Value} {A : List Atom}

theorem RowA.cells (h : RowA e size v n xs A) (hs : Sat W w (A ++ F)) {g off c : Nat} (hv : v = .slice (some ⟨g, off, none⟩) n c) (j : Nat) (hj : j < xs.length) :
    w.cell? ⟨g, off + j, none⟩ = xs[j]? ∧ w.frozen? ⟨g, off + j, none⟩ = false := by
  rcases h.2 with ⟨h1, _⟩ | ⟨g', off', cap, h1, _, _, rfl⟩
  · rw [h1] at hv; cases hv
  · rw [h1] at hv; cases hv
    obtain ⟨o, ho, hp⟩ := hs.get (List.mem_append_left _ (List.mem_singleton.2 rfl))
    exact hp.cell ho j hj

theorem RowA.reads (h : RowA e size v n xs A) (hs : Sat W w (A ++ F)) : Reads w v n xs := by
  rcases h.2 with ⟨h1, h2, h3⟩ | ⟨g, off, cap, h1, _, _, h3⟩
  · exact .inl ⟨h1, h2, List.eq_nil_of_length_eq_zero (by rw [h.1, h2]; simp)⟩
  · refine .inr ⟨_, _, h1, fun j u hu => ?_⟩
    have hj : j < xs.length := (List.getElem?_eq_some_iff.1 hu).1
    rw [add_row, (h.cells hs h1 j hj).1, hu]

theorem Reads.same (h : Reads w v n xs) (hb : ∀ a c, v = .slice (some a) n c → w'.heap[a.block]? = w.heap[a.block]?) : Reads w' v n xs := by
  rcases h with h | ⟨a, c, h1, h2⟩
  · exact .inl h
  · refine .inr ⟨a, c, h1, fun j u hu => ?_⟩
    rw [World.cell?_of_block (w := w), h2 j u hu]
    have : (a.add j).block = a.block := by unfold Addr.add; split <;> rfl
    rw [this, hb a c h1]

theorem Reads.grown (h : Reads w v n xs) (hb : Below w.heap.size w w') : Reads w' v n xs := by
  rcases h with h | ⟨a, c, h1, h2⟩
  · exact .inl h
  · refine .inr ⟨a, c, h1, fun j u hu => ?_⟩
    have hc := h2 j u hu
    rw [hb.cell (World.block_lt_of_cell? _ _ hc), hc]

theorem Reads.take (h : Reads w v n xs) {m c : Nat} {a : Option Addr} (size : Nat) (hv : v = .slice a n c) (hm : m ≤ n) (hn : xs.length = n * size) : Reads w (.slice a m c) m (xs.take (m * size)) := by
  rcases h with ⟨h1, h2, h3⟩ | ⟨a', c', h1, h2⟩
  · rw [hv] at h1; cases h1
    obtain rfl : m = 0 := by omega
    exact .inl ⟨rfl, rfl, by simp⟩
  · rw [hv] at h1; cases h1
    refine .inr ⟨a', c, rfl, fun j u hu => ?_⟩
    rw [List.getElem?_take] at hu
    split at hu
    · exact h2 j u hu
    · cases hu

section
variable {P : Program} {t : TypeId} {i : TypeInfo} {z : Value} {bytes : Nat}

/-- append: the elements of sv behind those of v; the row is v's own afterwards, wherever it lies. -/
theorem append_sl (ty : TypeId) (ht : P.underlying t = some (.slice e)) (hi : P.info? e = some i) (hz : i.zero = some z) (hsize : i.size = size) (hby : i.bytes = bytes) (hzs : z.cells.size = size) (hsz : 0 < size)
    (hr : RowA e size v n xs A) (hs : Sat W w (A ++ F)) {sv : Value} {m : Nat} {news : List Value} (hsrc : Reads w sv m news) (hl : news.length = m * size) (h1 : ∀ u ∈ news, u.oneCell' = true)
    (h63 : n + m ≤ maxLen) (hbytes : (n + m) * bytes ≤ 140737488355328) :
    ∃ v' w' A', (Builtin.append_ #[t, t] ty #[v, sv]).run P w = .ok v' w' ∧ RowA e size v' (n + m) (xs ++ news) A' ∧ Sat W w' (A' ++ F) := by
  subst hsize
  subst hby
  have hsmall : n + m ≤ 9223372036854775807 := by simp only [maxLen] at h63; omega
  have hlen : (xs ++ news).length = (n + m) * i.size := by rw [List.length_append, hr.1, hl, Nat.add_mul]
  have hsF : Sat W w F := hs.right
  -- a row in new memory
  have grown : ∀ (old : Nat), old < n + m →
      RowA e i.size (.slice (some ⟨w.heap.size, 0, none⟩) (n + m) (grownCap w (n + m) old e)) (n + m) (xs ++ news) [(w.heap.size, rowP e 0 (grownCap w (n + m) old e * i.size) (xs ++ news))] ∧
      Sat W (w.drew.alloc (.cells (xs.toArray ++ news.toArray ++ Builtin.zeroCells z.cells (grownCap w (n + m) old e - (n + m))) e)) ([(w.heap.size, rowP e 0 (grownCap w (n + m) old e * i.size) (xs ++ news))] ++ F) := by
    intro old ho
    have hge := grownCap_ge w (n + m) old e
    have hcm : grownCap w (n + m) old e ≤ maxLen := grownCap_le_maxLen w (n + m) old e h63
    refine ⟨⟨hlen, .inr ⟨_, _, _, rfl, hge, hcm, rfl⟩⟩, ?_⟩
    refine hsF.drew.new _ ⟨_, rfl, ?_, ?_, ?_⟩
    · simp only [Array.size_append, List.size_toArray, size_zeroCells, hzs, hr.1, hl, ← Nat.add_mul, Nat.zero_add]
      apply Nat.le_of_eq
      congr 1
      omega
    · rw [hlen]; exact Nat.mul_le_mul_right _ hge
    · simp only [List.drop_zero, Array.toList_append, List.append_assoc]
      rw [← List.append_assoc]
      exact List.take_left
  rcases hr.2 with ⟨rfl, rfl, rfl⟩ | ⟨g, off, cap, rfl, hnc, hcm, rfl⟩
  · have hx : xs = [] := List.eq_nil_of_length_eq_zero (by simpa using hr.1)
    subst hx
    rcases hsrc with ⟨rfl, rfl, rfl⟩ | ⟨a, c, rfl, hnews⟩
    · refine ⟨.slice none 0 0, w, [], ?_, RowA.nil e i.size, hs⟩
      simp [Builtin.append_, run_underlying ht, sizeOf, typeInfo, hi, Builtin.lenOf, Builtin.firstCells]
    · by_cases hm : m = 0
      · subst hm
        obtain rfl : news = [] := List.eq_nil_of_length_eq_zero (by simpa using hl)
        refine ⟨.slice none 0 0, w, [], ?_, RowA.nil e i.size, hs⟩
        have hf := run_firstCells_some (P := P) w i.size 0 a 0 c [] (by simp) hnews
        simp [Builtin.append_, run_underlying ht, sizeOf, typeInfo, hi, Builtin.lenOf, hf]
      · obtain ⟨g1, g2⟩ := grown 0 (by omega)
        have hr' := run_append_nil (P := P) w t ty e i z ht hi hz a m c news hl hnews (by omega) (by omega) (by have := growslice_fits (need := m) (old := 0) (bytes := i.bytes) (by omega) (by simpa using hbytes); rw [nextslicecap_zero (by omega)] at this; exact this)
        refine ⟨_, _, _, ?_, g1, g2⟩
        simpa using hr'
  · have hob : ∃ o, w.heap[g]? = some o ∧ rowP e off (cap * i.size) xs o := hs.get (List.mem_append_left _ (List.mem_singleton.2 rfl))
    obtain ⟨o, hg, cur, rfl, hc1, hc2, hc3⟩ := hob
    rcases hsrc with ⟨rfl, rfl, rfl⟩ | ⟨a, c, rfl, hnews⟩
    · refine ⟨.slice (some ⟨g, off, none⟩) n cap, w, _, ?_, by simpa using hr, hs⟩
      simp [Builtin.append_, run_underlying ht, sizeOf, typeInfo, hi, Builtin.lenOf, Builtin.firstCells, hnc, storeCells]
    · by_cases hroom : n + m ≤ cap
      · have hfit : off + n * i.size + 0 + news.length ≤ cur.size := by
          rw [hl]
          have : (n + m) * i.size ≤ cap * i.size := Nat.mul_le_mul_right _ hroom
          rw [Nat.add_mul] at this
          omega
        have hf := run_firstCells_some (P := P) w i.size m a m c news hl hnews
        have hst := run_storeCells_at P g (off + n * i.size) e news 0 cur w hg hfit h1
        simp only [Nat.add_zero] at hst hfit
        refine ⟨.slice (some ⟨g, off, none⟩) (n + m) cap, w.setRow g (cur.toList.take (off + n * i.size) ++ news ++ cur.toList.drop (off + n * i.size + news.length)).toArray, [(g, rowP e off (cap * i.size) (xs ++ news))], ?_, ⟨hlen, .inr ⟨g, off, cap, rfl, hroom, hcm, rfl⟩⟩, ?_⟩
        · simp [Builtin.append_, run_underlying ht, sizeOf, typeInfo, hi, Builtin.lenOf, hroom, hf, Addr.add_lit, hst]
        · have hs2 : Sat W w ((g, rowP e off (cap * i.size) xs) :: F) := by simpa using hs
          refine hs2.turn ⟨rfl, rfl, rfl, by simp [World.setRow]⟩ (fun k _ hk => ?_) ⟨.cells (cur.toList.take (off + n * i.size) ++ news ++ cur.toList.drop (off + n * i.size + news.length)).toArray e (0, 0), ?_, ⟨_, rfl, ?_, ?_, ?_⟩⟩
          · simp [World.setRow, Array.getElem?_modify, Ne.symm hk]
          · simp only [World.setRow, Array.getElem?_modify, if_true, hg, Option.map_some]
          · simp; omega
          · rw [hlen]; exact Nat.mul_le_mul_right _ hroom
          · have e1 : (cur.toList.take (off + n * i.size)).drop off = xs := by
              rw [List.drop_take, Nat.add_sub_cancel_left, ← hr.1]; exact hc3
            rw [List.append_assoc, List.drop_append_of_le_length (by simp; omega), e1, ← List.append_assoc]
            exact List.take_left
      · obtain ⟨g1, g2⟩ := grown cap (by omega)
        have holds : ∀ j u, xs[j]? = some u → w.cell? ((⟨g, off, none⟩ : Addr).add j) = some u := fun j u hu => by
          rw [add_row, (hr.cells hs rfl j (List.getElem?_eq_some_iff.1 hu).1).1, hu]
        have hr' := run_append_grow (P := P) w t ty e i z ht hi hz ⟨g, off, none⟩ n cap xs hr.1 holds a m c news hl hnews (by omega) (by omega) (growslice_fits (by omega) hbytes)
        exact ⟨_, _, _, hr', g1, g2⟩
end
end

/-- A row whose cells are written. -/
theorem rowP.set {e : TypeId} {off len : Nat} {xs : List Value} {cur : Array Value} (h1 : off + len ≤ cur.size) (h2 : xs.length ≤ len) (h3 : (cur.toList.drop off).take xs.length = xs) (j : Nat) (u : Value) :
    rowP e off len (xs.set j u) (.cells (if j < xs.length then cur.setIfInBounds (off + j) u else cur) e (0, 0)) := by
  refine ⟨_, rfl, ?_, by simpa using h2, ?_⟩
  · split <;> simpa using h1
  · by_cases hj : j < xs.length
    · rw [if_pos hj, List.length_set, Array.toList_setIfInBounds, List.drop_set, if_neg (by omega), Nat.add_sub_cancel_left, List.take_set, h3]
    · rw [if_neg hj, List.length_set, List.set_eq_of_length_le (by omega), h3]

theorem row_store {W w : World} {g : Nat} {e : TypeId} {off len : Nat} {xs : List Value} {F : List Atom} (hs : Sat W w ((g, rowP e off len xs) :: F)) (j : Nat) (hj : j < xs.length) (u : Value) :
    Sat W (w.setCell ⟨g, off + j, none⟩ u) ((g, rowP e off len (xs.set j u)) :: F) := by
  obtain ⟨o, ho, cur, rfl, h1, h2, h3⟩ := hs.head
  refine hs.turn (Inert.setCell w _ u) (fun k _ hk => Below.heap_setCell w _ u k hk) ⟨.cells (cur.setIfInBounds (off + j) u) e (0, 0), ?_, ?_⟩
  · simp only [World.setCell, Array.getElem?_modify, if_true, ho, Option.map_some]
    rfl
  · have := rowP.set (e := e) h1 h2 h3 j u
    rw [if_pos hj] at this
    exact this

/-! ### builtins at the operation -/
section
variable {P : Program} {o : Oper} {a : Act} {w w' : World} {K : Act → World → Prop} {Q : Exit → Act → World → Prop} {ts : Array TypeId} {v : Value}
theorem wp_of_value (h : (execOp a.eval o).run P w = .ok (.value v) w') (hk : K (a.put o.dst v) w') : o.wp P a w K Q := by
  unfold Oper.wp
  rw [h]
  exact hk
theorem wp_append {x y : Operand} (hop : o.op = .call { callee := .builtin .append, args := #[x, y], argTypes := ts }) (h : (Builtin.append_ ts o.type #[a.eval x, a.eval y]).run P w = .ok v w') (hk : K (a.put o.dst v) w') : o.wp P a w K Q := by
  refine wp_of_value ?_ hk
  simp only [execOp, hop, resolve, invoke, builtin, Sem.run_bind, Sem.run_pure, Result.andThen_ok, List.map_toArray, List.map_cons, List.map_nil, h]
theorem wp_delete {x y : Operand} (hop : o.op = .call { callee := .builtin .delete, args := #[x, y], argTypes := ts }) (h : (Builtin.delete_ ts o.type #[a.eval x, a.eval y]).run P w = .ok v w') (hk : K (a.put o.dst v) w') : o.wp P a w K Q := by
  refine wp_of_value ?_ hk
  simp only [execOp, hop, resolve, invoke, builtin, Sem.run_bind, Sem.run_pure, Result.andThen_ok, List.map_toArray, List.map_cons, List.map_nil, h]
theorem wp_clear {x : Operand} (hop : o.op = .call { callee := .builtin .clear, args := #[x], argTypes := ts }) (h : (Builtin.clear_ ts o.type #[a.eval x]).run P w = .ok v w') (hk : K (a.put o.dst v) w') : o.wp P a w K Q := by
  refine wp_of_value ?_ hk
  simp only [execOp, hop, resolve, invoke, builtin, Sem.run_bind, Sem.run_pure, Result.andThen_ok, List.map_toArray, List.map_cons, List.map_nil, h]
theorem wp_copy {x y : Operand} (hop : o.op = .call { callee := .builtin .copy, args := #[x, y], argTypes := ts }) (h : (Builtin.copy_ ts o.type #[a.eval x, a.eval y]).run P w = .ok v w') (hk : K (a.put o.dst v) w') : o.wp P a w K Q := by
  refine wp_of_value ?_ hk
  simp only [execOp, hop, resolve, invoke, builtin, Sem.run_bind, Sem.run_pure, Result.andThen_ok, List.map_toArray, List.map_cons, List.map_nil, h]
end
end Go.Sl

namespace Go.Sl
set_option linter.unusedSimpArgs false
set_option linter.unusedVariables false
open Go Go.RowKit

def Ext (w w' : World) : Prop := Below w.heap.size w w'
theorem Ext.refl (w : World) : Ext w w := Below.refl _ w
theorem Ext.trans {a b c : World} (h : Ext a b) (k : Ext b c) : Ext a c := Below.trans h (Below.mono k h.size)
theorem Ext.drew (w : World) : Ext w w.drew := Below.drew (Below.refl _ w)
theorem Ext.alloc (w : World) (o : Obj) : Ext w (w.alloc o) := Below.alloc (Below.refl _ w) (Nat.le_refl _) o

/-- The very same world. -/
@[reducible] def One (w w' : World) : Prop := w' = w

/-- In world w the operation leaves v, and a world that X lets. -/
def quietE (P : Program) (X : World → World → Prop) (o : Oper) (a : Act) (w : World) (v : Value) : Prop :=
  match (execOp a.eval o).run P w with
  | .ok (.value u) w' => X w w' ∧ u = v
  | .ok .skip w' => X w w' ∧ v = undef
  | .ok (.enter f args) w' => Calls P f args w' fun e w'' => e = .returned v ∧ X w w''
  | _ => False

def YieldsE (P : Program) (X : World → World → Prop) (ops : Array Oper) (C : World → Prop) (o : Oper) (v : Value) (a : Act) : Prop :=
  (Region.wanted o (yielded ops a.tmps) = true ∧ ∀ w, C w → quietE P X o a w v) ∨
  (Region.wanted o (yielded ops a.tmps) = false ∧ v = undef)

def dep (ops : Array Oper) (i k : Nat) : Bool := match ops[i]? with | some o => o.after.any fun e => Region.binds .any e && e.on == k | none => false

def blkStep (k : Nat) (s : Nat × Nat) (o : Oper) : Nat × Nat :=
  (s.1 + 1, if s.1 == k || o.after.any (fun e => Region.binds .any e && s.2.testBit e.on) then s.2 ||| 2 ^ s.1 else s.2)
/-- Those that can't come up ahead of k. -/
def blkMask (ops : Array Oper) (k : Nat) : Nat := (ops.toList.foldl (blkStep k) (0, 0)).2

section
variable {P : Program} {ops : Array Oper} {Q : Exit → Act → World → Prop} {S : World → Prop} {E St Pu N : Nat → Bool} {X : World → World → Prop}

/-- The region, walked in the order of the list: at each operation that acts S is shown anew. -/
def Can (P : Program) (X : World → World → Prop) (ops : Array Oper) (Q : Exit → Act → World → Prop) (S : World → Prop) (E St Pu N : Nat → Bool) : List Nat → Act → World → Prop
  | [], a, w => ∀ w2, X w w2 → Q .normal a w2
  | k :: c, a, w => match ops[k]? with
    | none => False
    | some o => if E k then ∀ w2, X w w2 → wpOp P ops Q k (fun a' w' => (N k = true → S w') ∧ Can P X ops Q S E St Pu N c a' w') a w2
      else ∃ v, YieldsE P X ops (if St k then (fun w => Pu k = true ∨ S w) else X w) o v a ∧ Can P X ops Q S E St Pu N c (a.put o.dst v) w

/-- What is asked of two operations, k ahead of i in the list. -/
def pairCore (ops : Array Oper) (E St : Nat → Bool) (k i : Nat) : Bool :=
  !(dep ops k i) && (k != i) &&
  (if E k then (blkMask ops k).testBit i
   else (dep ops i k || match ops[k]?, ops[i]? with | some x, some y => x.apart ops y | _, _ => false) && (St k || !(E i) || (blkMask ops k).testBit i))
/-- Behind which of those that act S must be shown anew. -/
def pairN (ops : Array Oper) (E St Pu N : Nat → Bool) (k i : Nat) : Bool :=
  (!(E k) || !(St i && !(Pu i)) || N k) && (!(St k && !(Pu k)) || !(E i) || N i || (blkMask ops k).testBit i)

def selfOk (ops : Array Oper) (k : Nat) : Bool := match ops[k]? with
  | some o => o.after.all fun e => !Region.binds .any e || (e.on != k && decide (e.on < ops.size))
  | none => false

theorem dep_iff {i k : Nat} : dep ops i k = true ↔ ∃ o, ops[i]? = some o ∧ ∃ e ∈ o.after, Region.binds .any e = true ∧ e.on = k := by
  unfold dep
  cases h : ops[i]? with
  | none => simp
  | some o =>
    rw [Array.any_eq_true']
    simp only [Bool.and_eq_true, beq_iff_eq, Option.some.injEq, exists_eq_left']

structure Good (ops : Array Oper) (E St Pu N : Nat → Bool) (r : List Nat) (listed : Array Bool) : Prop where
  size : listed.size = ops.size
  nodup : r.Nodup
  mem : ∀ i, i ∈ r ↔ i < ops.size ∧ listed.getD i true = false
  pair : r.Pairwise fun k i => pairCore ops E St k i = true ∧ pairN ops E St Pu N k i = true
  self : ∀ i ∈ r, selfOk ops i = true
  closed : ∀ j k, listed.getD j false = true → dep ops j k = true → listed.getD k false = true

theorem getD_ft {l : Array Bool} {i : Nat} (h : i < l.size) (d e : Bool) : l.getD i d = l.getD i e := by simp [h]

/-- While k has not come up, whatever waits for it, however far, can't. -/
theorem blk_unlisted {listed : Array Bool} (hsz : listed.size = ops.size) (hcl : ∀ j k, listed.getD j false = true → dep ops j k = true → listed.getD k false = true) {k : Nat} (hk : listed.getD k false = false) :
    ∀ (l : List Oper) (s : Nat × Nat), (∀ j, l[j]? = ops[s.1 + j]?) →
      (∀ i, s.2.testBit i = true → listed.getD i false = false ∧ (i = k ∨ ∃ j, dep ops i j = true ∧ listed.getD j false = false)) →
      ∀ i, (l.foldl (blkStep k) s).2.testBit i = true → listed.getD i false = false ∧ (i = k ∨ ∃ j, dep ops i j = true ∧ listed.getD j false = false)
  | [], s, _, h, i, hi => h i hi
  | o :: l, s, hl, h, i, hi => by
    refine blk_unlisted hsz hcl hk l (blkStep k s o) (fun j => ?_) (fun i hi => ?_) i hi
    · have := hl (j + 1)
      simpa [blkStep, Nat.add_assoc, Nat.add_comm 1 j] using this
    · have ho : ops[s.1]? = some o := by simpa using (hl 0).symm
      unfold blkStep at hi
      simp only at hi
      split at hi
      · rename_i hc
        rw [Nat.testBit_or, Bool.or_eq_true] at hi
        rcases hi with hi | hi
        · exact h i hi
        · rw [Nat.testBit_two_pow] at hi
          have hi : s.1 = i := by simpa using hi
          subst hi
          rw [Bool.or_eq_true] at hc
          rcases hc with hc | hc
          · have : s.1 = k := by simpa using hc
            rw [this]; exact ⟨hk, .inl rfl⟩
          · obtain ⟨e, he, hb⟩ := Array.any_eq_true'.1 hc
            rw [Bool.and_eq_true] at hb
            have hd : dep ops s.1 e.on = true := dep_iff.2 ⟨o, ho, e, he, hb.1, rfl⟩
            have hu := (h e.on hb.2).1
            refine ⟨?_, .inr ⟨e.on, hd, hu⟩⟩
            cases hx : listed.getD s.1 false with
            | false => rfl
            | true => rw [hcl _ _ hx hd] at hu; cases hu
      · exact h i hi

theorem blk_ready {r : List Nat} {listed : Array Bool} (g : Good ops E St Pu N r listed) {k i : Nat} (hk : k ∈ r) (hi : i ∈ Region.ready .any ops listed) (hb : (blkMask ops k).testBit i = true) : i = k := by
  obtain ⟨hk1, hk2⟩ := (g.mem k).1 hk
  rw [getD_ft (by rw [g.size]; exact hk1) true false] at hk2
  have := blk_unlisted g.size g.closed hk2 ops.toList (0, 0) (fun j => by simp) (fun i hi => by simp at hi) i hb
  rcases this.2 with h | ⟨j, h1, h2⟩
  · exact h
  · obtain ⟨o, ho, e, he, hbi, rfl⟩ := dep_iff.1 h1
    obtain ⟨_, o', ho', hall⟩ := mem_ready.1 hi
    rw [ho] at ho'
    cases ho'
    rw [hall e he hbi] at h2
    cases h2

theorem YieldsE.of_same {C : World → Prop} {o : Oper} {v : Value} {a a' : Act} (hy : YieldsE P X ops C o v a) (he : execOp a'.eval o = execOp a.eval o)
    (hw : Region.wanted o (yielded ops a'.tmps) = Region.wanted o (yielded ops a.tmps)) : YieldsE P X ops C o v a' := by
  unfold YieldsE quietE at *
  rw [he, hw]
  exact hy

theorem wpOp_putE {C : World → Prop} {j : Nat} {oi oj : Oper} {v : Value} (hj : ops[j]? = some oj) (hap : oi.apart ops oj = true)
    (hsi : ∀ cs b, oi.op ≠ .select cs b) (hsj : ∀ cs b, oj.op ≠ .select cs b)
    (hQ : ∀ c a a' w, Q (.panic c) a w → Q (.panic c) a' w) {K : Act → World → Prop} {a : Act} {w : World}
    (hy : YieldsE P X ops C oi v a) (h : wpOp P ops Q j K (a.put oi.dst v) w) :
    wpOp P ops Q j (fun a' w' => YieldsE P X ops C oi v a' ∧ K (a'.put oi.dst v) w') a w := by
  obtain ⟨h1, h2, h3⟩ := Oper.apart_spec hap
  have keep : ∀ (a : Act), YieldsE P X ops C oi v a → ∀ u, YieldsE P X ops C oi v (a.put oj.dst u) := fun a hy u =>
    hy.of_same (execOp_put oi hsi a oj.dst u h3) (wanted_put oi a oj.dst u h3)
  have keepD : ∀ d, YieldsE P X ops C oi v { a with defers := d :: a.defers } := fun d => hy.of_same rfl rfl
  unfold wpOp at *
  simp only [hj] at *
  rw [wanted_put oj a oi.dst v h1] at h
  split
  · rename_i hw
    simp only [hw, if_true] at h
    rcases h with h | ⟨hasks, hlets⟩
    case inr => exact .inr ⟨by unfold Oper.asks at *; rw [execOp_put oj hsj a oi.dst v h1] at hasks; exact hasks, hlets⟩
    refine .inl ?_
    unfold Oper.wp at *
    rw [execOp_put oj hsj a oi.dst v h1] at h
    generalize (execOp a.eval oj).run P w = r at *
    cases r with
    | ok n w' =>
      cases n <;> simp only [Oper.upon] at h ⊢
      case value u => exact ⟨keep a hy u, by rw [← Act.put_comm a v u h2]; exact h⟩
      case skip => exact ⟨keep a hy _, by rw [← Act.put_comm a v undef h2]; exact h⟩
      case defer d =>
        refine ⟨keep _ (keepD d) _, ?_⟩
        rw [← Act.put_comm _ v undef h2, ← Act.put_defers]
        exact h
      case enter f args =>
        refine Calls.mono h fun e w'' he => ?_
        cases e with
        | returned u => exact ⟨keep a hy u, by rw [← Act.put_comm a v u h2]; exact he⟩
        | panicked c => exact hQ _ _ _ _ he
        | outgrown => exact he
      case row row args => exact Rows.mono h fun u w'' he => ⟨keep a hy u, by rw [← Act.put_comm a v u h2]; exact he⟩
    | halt x w' =>
      cases x <;> simp only [Oper.upon] at h ⊢
      case panic u => exact hQ _ _ _ _ h
  · rename_i hw
    simp only [hw] at h
    exact ⟨keep a hy _, by rw [← Act.put_comm a v undef h2]; exact h⟩

/-- A quiet one that may come up ahead of other quiet ones. -/
theorem move_quiet (hsel : ∀ (j : Nat) (o : Oper) cs b, ops[j]? = some o → o.op ≠ .select cs b) {i : Nat} {oi : Oper} (hi : ops[i]? = some oi) (hEi : E i = false) {r2 : List Nat} {w : World} :
    ∀ (r1 : List Nat) (a : Act), (∀ k ∈ r1, E k = false ∧ ∀ ok, ops[k]? = some ok → ok.apart ops oi = true) → Can P X ops Q S E St Pu N (r1 ++ i :: r2) a w →
      ∃ v, YieldsE P X ops (if St i then (fun w => Pu i = true ∨ S w) else X w) oi v a ∧ Can P X ops Q S E St Pu N (r1 ++ r2) (a.put oi.dst v) w
  | [], a, _, h => by
    simp only [List.nil_append, Can, hi, hEi, Bool.false_eq_true, if_false] at h
    exact h
  | k :: r1, a, hr, h => by
    obtain ⟨hEk, hap⟩ := hr k (by simp)
    simp only [List.cons_append, Can] at h ⊢
    cases hk : ops[k]? with
    | none => simp [hk] at h
    | some ok =>
      simp only [hk, hEk, Bool.false_eq_true, if_false] at h ⊢
      obtain ⟨vk, hyk, h⟩ := h
      obtain ⟨v, hy, h⟩ := move_quiet hsel hi hEi r1 _ (fun x hx => hr x (by simp [hx])) h
      obtain ⟨h1, h2, h3⟩ := Oper.apart_spec (hap ok hk)
      refine ⟨v, hy.of_same (execOp_put oi (fun cs b => hsel i oi cs b hi) a ok.dst vk h1).symm (wanted_put oi a ok.dst vk h1).symm, vk,
        hyk.of_same (execOp_put ok (fun cs b => hsel k ok cs b hk) a oi.dst v h3) (wanted_put ok a oi.dst v h3), ?_⟩
      rw [Act.put_comm a v vk (fun d hd he => h2 d he hd)]
      exact h

/-- One that acts and may come up ahead of quiet ones that float. -/
theorem move_act (hsel : ∀ (j : Nat) (o : Oper) cs b, ops[j]? = some o → o.op ≠ .select cs b) (hQ : ∀ c a a' w, Q (.panic c) a w → Q (.panic c) a' w) {i : Nat} {oi : Oper} (hi : ops[i]? = some oi) (hEi : E i = true) {r2 : List Nat} {w w2 : World} (hx : X w w2) :
    ∀ (r1 : List Nat) (a : Act), (∀ k ∈ r1, E k = false ∧ St k = true ∧ ∀ ok, ops[k]? = some ok → ok.apart ops oi = true) → Can P X ops Q S E St Pu N (r1 ++ i :: r2) a w →
      wpOp P ops Q i (fun a' w' => (N i = true → S w') ∧ Can P X ops Q S E St Pu N (r1 ++ r2) a' w') a w2
  | [], a, _, h => by
    simp only [List.nil_append, Can, hi, hEi, if_true] at h
    exact h w2 hx
  | k :: r1, a, hr, h => by
    obtain ⟨hEk, hSk, hap⟩ := hr k (by simp)
    simp only [List.cons_append, Can] at h
    cases hk : ops[k]? with
    | none => simp [hk] at h
    | some ok =>
      simp only [hk, hEk, hSk, Bool.false_eq_true, if_false, if_true] at h
      obtain ⟨vk, hyk, h⟩ := h
      have h1 := move_act hsel hQ hi hEi hx r1 _ (fun x hx => hr x (by simp [hx])) h
      have h2 := wpOp_putE hi (hap ok hk) (fun cs b => hsel k ok cs b hk) (fun cs b => hsel i oi cs b hi) hQ hyk h1
      refine wpOp_mono (fun a' w' ⟨g1, g2, g3⟩ => ⟨g2, ?_⟩) h2
      simp only [List.cons_append, Can, hk, hEk, hSk, Bool.false_eq_true, if_false, if_true]
      exact ⟨vk, g1, g3⟩

theorem Good.ready_mem {r : List Nat} {listed : Array Bool} (g : Good ops E St Pu N r listed) {i : Nat} (hi : i ∈ Region.ready .any ops listed) : i ∈ r := by
  obtain ⟨h1, o, ho, _⟩ := mem_ready.1 hi
  exact (g.mem i).2 ⟨(Array.getElem?_eq_some_iff.1 ho).1, h1⟩

theorem Good.head {k : Nat} {r : List Nat} {listed : Array Bool} (g : Good ops E St Pu N (k :: r) listed) : k ∈ Region.ready .any ops listed := by
  obtain ⟨h1, h2⟩ := (g.mem k).1 (by simp)
  rw [mem_ready]
  refine ⟨h2, ops[k], by simp [h1], fun e he hb => ?_⟩
  have hs := g.self k (by simp)
  simp only [selfOk, h1, Array.getElem?_eq_getElem, Array.all_eq_true_iff_forall_mem] at hs
  have hs1 := hs e he
  simp only [hb, Bool.not_true, Bool.false_or, Bool.and_eq_true, bne_iff_ne, decide_eq_true_eq] at hs1
  cases hx : listed.getD e.on false with
  | true => rfl
  | false =>
    have hm : e.on ∈ k :: r := (g.mem e.on).2 ⟨hs1.2, by rw [getD_ft (by rw [g.size]; exact hs1.2) true false]; exact hx⟩
    rcases List.mem_cons.1 hm with hm | hm
    · exact absurd hm hs1.1
    · have hp := (List.pairwise_cons.1 g.pair).1 e.on hm
      have hp := hp.1
      simp only [pairCore, Bool.and_eq_true, Bool.not_eq_true'] at hp
      have hd : dep ops k e.on = true := dep_iff.2 ⟨ops[k], by simp [h1], e, he, hb, rfl⟩
      rw [hd] at hp
      exact absurd hp.1.1 (by simp)

theorem Good.next {r1 r2 : List Nat} {i : Nat} {listed : Array Bool} (g : Good ops E St Pu N (r1 ++ i :: r2) listed) (hi : i ∈ Region.ready .any ops listed) : Good ops E St Pu N (r1 ++ r2) (listed.setIfInBounds i true) := by
  have hsub : (r1 ++ r2).Sublist (r1 ++ i :: r2) := List.Sublist.append_left (List.sublist_cons_self i r2) r1
  have hin : i ∉ r1 ++ r2 := by
    have := g.nodup
    rw [List.nodup_append] at this
    obtain ⟨n1, n2, n3⟩ := this
    rw [List.nodup_cons] at n2
    intro hm
    rcases List.mem_append.1 hm with hm | hm
    · exact n3 i hm i (by simp) rfl
    · exact n2.1 hm
  have hlt : i < ops.size := ((g.mem i).1 (by simp)).1
  refine ⟨by simp [g.size], hsub.nodup g.nodup, fun j => ?_, g.pair.sublist hsub, fun j hj => g.self j (hsub.subset hj), fun j k hj hd => ?_⟩
  · by_cases hji : i = j
    · subst hji
      simp only [hin, false_iff, not_and]
      intro _
      simp [g.size, hlt]
    · rw [getD_set_ne true hji, ← g.mem j]
      simp only [List.mem_append, List.mem_cons]
      constructor
      · rintro (h | h) <;> simp [h]
      · rintro (h | rfl | h)
        · exact .inl h
        · exact absurd rfl hji
        · exact .inr h
  · by_cases hji : i = j
    · subst hji
      obtain ⟨o, ho, e, he, hb, rfl⟩ := dep_iff.1 hd
      obtain ⟨_, o', ho', hall⟩ := mem_ready.1 hi
      rw [ho] at ho'
      cases ho'
      exact getD_set_true (hall e he hb)
    · rw [getD_set_ne false hji] at hj
      exact getD_set_true (g.closed j k hj hd)

theorem can_any (hsel : ∀ (j : Nat) (o : Oper) cs b, ops[j]? = some o → o.op ≠ .select cs b) (hQ : ∀ c a a' w, Q (.panic c) a w → Q (.panic c) a' w) (hXr : ∀ w, X w w) (hXt : ∀ a b c, X a b → X b c → X a c) (hSx : ∀ w w', S w → X w w' → S w') :
    ∀ (fuel : Nat) (r : List Nat) (listed : Array Bool) (a : Act) (w0 w : World), r.length ≤ fuel → Good ops E St Pu N r listed → Can P X ops Q S E St Pu N r a w0 → X w0 w → ((∃ k ∈ r, St k = true ∧ Pu k = false) → S w) → wpAny P .any ops Q fuel listed a w
  | 0, r, listed, a, w0, w, hl, g, h, hx, hS => by
    obtain rfl : r = [] := List.eq_nil_of_length_eq_zero (by omega)
    refine ⟨?_, h w hx⟩
    rw [List.eq_nil_iff_forall_not_mem]
    exact fun i hi => by simpa using g.ready_mem hi
  | fuel + 1, r, listed, a, w0, w, hl, g, h, hx, hS => by
    refine ⟨fun h0 => ?_, fun i hi => ?_⟩
    · cases r with
      | nil => exact h w hx
      | cons k r => have := g.head; rw [h0] at this; simp at this
    · obtain ⟨r1, r2, rfl⟩ := List.append_of_mem (g.ready_mem hi)
      obtain ⟨_, oi, hoi, hall⟩ := mem_ready.1 hi
      have hnext := g.next hi
      have hS' : (∃ k ∈ r1 ++ r2, St k = true ∧ Pu k = false) → S w := fun ⟨k, hk, hs⟩ => hS ⟨k, by
        simp only [List.mem_append, List.mem_cons] at hk ⊢
        rcases hk with hk | hk <;> simp [hk], hs⟩
      have hlen : (r1 ++ r2).length ≤ fuel := by simp at hl ⊢; omega
      have hpair2 : ∀ k ∈ r1, pairCore ops E St k i = true ∧ pairN ops E St Pu N k i = true := fun k hk => by
        have := g.pair
        rw [List.pairwise_append] at this
        exact this.2.2 k hk i (by simp)
      have hpair : ∀ k ∈ r1, pairCore ops E St k i = true := fun k hk => (hpair2 k hk).1
      have hnd : ∀ k ∈ r1, dep ops i k = false := fun k hk => by
        cases hd : dep ops i k with
        | false => rfl
        | true =>
          obtain ⟨o, ho, e, he, hb, rfl⟩ := dep_iff.1 hd
          rw [hoi] at ho
          cases ho
          have h1 := hall e he hb
          obtain ⟨h2, h3⟩ := (g.mem e.on).1 (List.mem_append_left _ hk)
          rw [getD_ft (by rw [g.size]; exact h2) true false, h1] at h3
          cases h3
      have hne : ∀ k ∈ r1, i ≠ k := fun k hk e => by
        have := hpair k hk
        simp [pairCore, e] at this
      have hE : ∀ k ∈ r1, E k = false := fun k hk => by
        cases hEk : E k with
        | false => rfl
        | true =>
          have hp := hpair k hk
          simp only [pairCore, hEk, if_true, Bool.and_eq_true] at hp
          exact absurd (blk_ready g (List.mem_append_left _ hk) hi hp.2) (hne k hk)
      have hap : ∀ k ∈ r1, ∀ ok, ops[k]? = some ok → ok.apart ops oi = true := fun k hk ok hok => by
        have hp := hpair k hk
        simp only [pairCore, hE k hk, Bool.false_eq_true, if_false, Bool.and_eq_true, hnd k hk, Bool.false_or, hok, hoi] at hp
        exact hp.2.1
      cases hEi : E i with
      | false =>
        obtain ⟨v, hy, h'⟩ := move_quiet hsel hoi hEi r1 a (fun k hk => ⟨hE k hk, hap k hk⟩) h
        unfold wpOp
        simp only [hoi]
        rcases hy with ⟨hw, hv⟩ | ⟨hw, rfl⟩
        · simp only [hw, if_true]
          refine .inl ?_
          have hq := hv w (by
            cases hsi : St i with
            | false => simpa using hx
            | true =>
              simp only [if_true]
              cases hpi : Pu i with
              | true => exact .inl rfl
              | false => exact .inr (hS ⟨i, by simp, hsi, hpi⟩))
          unfold quietE at hq
          unfold Oper.wp
          generalize (execOp a.eval oi).run P w = res at *
          cases res with
          | ok n w' =>
            cases n <;> simp only at hq <;> simp only [Oper.upon]
            case value u =>
              obtain ⟨q1, rfl⟩ := hq
              exact can_any hsel hQ hXr hXt hSx fuel _ _ _ w0 w' hlen hnext h' (hXt _ _ _ hx q1) (fun hs => hSx _ _ (hS' hs) q1)
            case skip =>
              obtain ⟨q1, rfl⟩ := hq
              exact can_any hsel hQ hXr hXt hSx fuel _ _ _ w0 w' hlen hnext h' (hXt _ _ _ hx q1) (fun hs => hSx _ _ (hS' hs) q1)
            case enter f args =>
              refine hq.mono fun e w'' ⟨he, q1⟩ => ?_
              subst he
              exact can_any hsel hQ hXr hXt hSx fuel _ _ _ w0 w'' hlen hnext h' (hXt _ _ _ hx q1) (fun hs => hSx _ _ (hS' hs) q1)
          | halt x w' => simp only at hq
        · simp only [hw, Bool.false_eq_true, if_false]
          exact can_any hsel hQ hXr hXt hSx fuel _ _ _ w0 w hlen hnext h' hx hS'
      | true =>
        have hSt : ∀ k ∈ r1, St k = true := fun k hk => by
          cases hk' : St k with
          | true => rfl
          | false =>
            have hp := hpair k hk
            simp only [pairCore, hE k hk, Bool.false_eq_true, if_false, Bool.and_eq_true, hk', hEi, Bool.not_true, Bool.false_or] at hp
            exact absurd (blk_ready g (List.mem_append_left _ hk) hi hp.2.2) (hne k hk)
        have h' := move_act hsel hQ hoi hEi hx r1 a (fun k hk => ⟨hE k hk, hSt k hk, hap k hk⟩) h
        refine wpOp_mono (fun a' w' ⟨g1, g2⟩ => can_any hsel hQ hXr hXt hSx fuel _ _ _ w' w' hlen hnext g2 (hXr w') (fun ⟨k, hk, hs⟩ => g1 ?_)) h'
        rcases List.mem_append.1 hk with hk | hk
        · have hp := (hpair2 k hk).2
          simp only [pairN, Bool.and_eq_true, hs.1, hs.2, hEi, Bool.not_false, Bool.and_self, Bool.not_true, Bool.false_or, Bool.or_eq_true] at hp
          rcases hp.2 with h1 | h1
          · exact h1
          · exact absurd (blk_ready g (List.mem_append_left _ hk) hi h1) (hne k hk)
        · have hp := g.pair
          rw [List.pairwise_append] at hp
          have hp := ((List.pairwise_cons.1 hp.2.1).1 k hk).2
          simp only [pairN, Bool.and_eq_true, hs.1, hs.2, hEi, Bool.not_false, Bool.and_self, Bool.not_true, Bool.false_or] at hp
          exact hp.1

/-- The list c is an order in which the region may be walked: E those that act, St those that look at S alone. -/
def canOk (ops : Array Oper) (E St Pu N c : List Nat) : Bool :=
  Region.noSelect ops && decide (c.length = ops.size) && (List.range ops.size).all (c.contains ·) && c.all (fun i => decide (i < ops.size) && selfOk ops i) &&
  allPairs (fun k i => pairCore ops (E.contains ·) (St.contains ·) k i && pairN ops (E.contains ·) (St.contains ·) (Pu.contains ·) (N.contains ·) k i) c
where
  allPairs (f : Nat → Nat → Bool) : List Nat → Bool
    | [] => true
    | k :: c => c.all (f k) && allPairs f c

theorem pairwise_of_all (f : Nat → Nat → Bool) : ∀ c, canOk.allPairs f c = true → c.Pairwise fun k i => f k i = true
  | [], _ => .nil
  | k :: c, h => by
    simp only [canOk.allPairs, Bool.and_eq_true, List.all_eq_true] at h
    exact .cons h.1 (pairwise_of_all f c h.2)

theorem wp_region_can {id : Nat} {a : Act} {w : World} (X : World → World → Prop) (hXr : ∀ w, X w w) (hXt : ∀ a b c, X a b → X b c → X a c) (E St Pu N c : List Nat) (S : World → Prop) (hm : P.follows .mixedOrders = true) (hc : canOk ops E St Pu N c = true)
    (hQ : ∀ c a a' w, Q (.panic c) a w → Q (.panic c) a' w) (hSx : ∀ w w', S w → X w w' → S w') (hS : S w.drew)
    (h : Can P X ops Q S (E.contains ·) (St.contains ·) (Pu.contains ·) (N.contains ·) c a w.drew) : (Code.region id ops true).wp P Q a w := by
  simp only [canOk, Bool.and_eq_true, decide_eq_true_eq, List.all_eq_true, List.mem_range] at hc
  obtain ⟨⟨⟨⟨c1, c2⟩, c3⟩, c4⟩, c5⟩ := hc
  have hp := pairwise_of_all _ _ c5
  refine wp_region_any hm (can_any (E := (E.contains ·)) (St := (St.contains ·)) (Pu := (Pu.contains ·)) (N := (N.contains ·)) (Region.noSelect_spec c1) hQ hXr hXt hSx ops.size c _ a w.drew w.drew (Nat.le_of_eq c2) ?_ h (hXr _) (fun _ => hS))
  refine ⟨by simp, ?_, fun i => ?_, hp.imp (fun {x y} h => by simpa using h), fun i hi => (c4 i hi).2, fun j k hj => ?_⟩
  · rw [List.nodup_iff_pairwise_ne]
    refine hp.imp (fun {x y} hxy e => ?_)
    simp [pairCore, e] at hxy
  · constructor
    · intro hi
      exact ⟨(c4 i hi).1, by simp [(c4 i hi).1]⟩
    · rintro ⟨hi, _⟩
      simpa using c3 i hi
  · by_cases hlt : j < ops.size
    · simp [hlt] at hj
    · simp [hlt] at hj

/-- Q, but no panic. -/
def Calm (Q : Exit → Act → World → Prop) : Exit → Act → World → Prop
  | .panic _, _, _ => False
  | e, a, w => Q e a w
theorem calm_imp {Q : Exit → Act → World → Prop} : ∀ (e : Exit) (a : Act) (w : World), Calm Q e a w → Q e a w := fun e a w h => by
  cases e <;> first | exact h | exact (h : False).elim

/-- A region in which no call is quiet: the world stays the very same till one acts; floating ones look at no world. -/
theorem wp_region_one {id : Nat} {a : Act} {w : World} (E St Pu N c : List Nat) (hm : P.follows .mixedOrders = true) (hc : canOk ops E St Pu N c = true)
    (h : Can P One ops (Calm Q) (fun _ => True) (E.contains ·) (St.contains ·) (Pu.contains ·) (N.contains ·) c a w.drew) : (Code.region id ops true).wp P Q a w :=
  Code.wp_mono calm_imp (wp_region_can One (fun _ => rfl) (fun _ _ _ h k => k.trans h) E St Pu N c (fun _ => True) hm hc (fun _ _ _ _ h => h) (fun _ _ _ _ => trivial) trivial h)
/-- .. floating ones look at what S says. -/
theorem wp_region_held1 {id : Nat} {a : Act} {w : World} (E St Pu N c : List Nat) (S : World → Prop) (hm : P.follows .mixedOrders = true) (hc : canOk ops E St Pu N c = true)
    (hS : S w.drew) (h : Can P One ops (Calm Q) S (E.contains ·) (St.contains ·) (Pu.contains ·) (N.contains ·) c a w.drew) : (Code.region id ops true).wp P Q a w :=
  Code.wp_mono calm_imp (wp_region_can One (fun _ => rfl) (fun _ _ _ h k => k.trans h) E St Pu N c S hm hc (fun _ _ _ _ h => h) (fun _ _ h k => by rw [show _ = _ from k]; exact h) hS h)
/-- Calls may be quiet: they leave all that is there as it is. -/
theorem wp_region_ext {id : Nat} {a : Act} {w : World} (E St Pu N c : List Nat) (S : World → Prop) (hm : P.follows .mixedOrders = true) (hc : canOk ops E St Pu N c = true)
    (hSx : ∀ w w', S w → Ext w w' → S w') (hS : S w.drew)
    (h : Can P Ext ops (Calm Q) S (E.contains ·) (St.contains ·) (Pu.contains ·) (N.contains ·) c a w.drew) : (Code.region id ops true).wp P Q a w :=
  Code.wp_mono calm_imp (wp_region_can Ext Ext.refl (fun _ _ _ h k => h.trans k) E St Pu N c S hm hc (fun _ _ _ _ h => h) hSx hS h)

/-! ### the steps of such a walk -/
def notCall (o : Oper) : Bool := match o.op with
  | .call { callee := .builtin b, .. } => (match b with | .len | .cap | .min | .max => true | _ => false)
  | .call _ | .go _ | .defer _ | .send .. | .recv .. | .select .. => false | _ => true

theorem notEnter {o : Oper} (h : notCall o = true) (ρ : Operand → Value) (w w' : World) (f : FuncId) (args : Array Value) : (execOp ρ o).run P w ≠ .ok (.enter f args) w' := by
  have key : ∀ (s : Sem Value), (do pure (Next.value (← s)) : Sem Next).run P w ≠ .ok (.enter f args) w' := by
    intro s
    simp only [Sem.run_bind, Result.andThen]
    split <;> simp
  have key2 : ∀ (s : Sem Unit), (do s; pure Next.skip : Sem Next).run P w ≠ .ok (.enter f args) w' := by
    intro s
    simp only [Sem.run_bind, Result.andThen]
    split <;> simp
  obtain ⟨dst, op, type, pos, after, guard⟩ := o
  cases op <;> simp only [notCall] at h <;> simp only [execOp] <;> first | exact key _ | exact key2 _ | skip
  case move x => simp
  case assign x => simp
  case nilCheck x =>
    split
    · simp [runtimePanic]
    · simp [runtimePanic]
    · simp [runtimePanic]
    · split
      · simp [runtimePanic]
      · simp only [Sem.run_bind, Result.andThen]
        repeat' split
        all_goals simp_all
      · simp
    · simp
  case pick c a b =>
    simp only [Sem.run_bind, Result.andThen]
    split <;> simp
  case call c =>
    obtain ⟨callee, args', argTypes⟩ := c
    cases callee with
    | value _ => cases h
    | invoke _ _ => cases h
    | builtin b => cases b <;> simp only [] at h <;> first | (cases h; done) | (simp only [resolve, invoke, builtin, Sem.run_bind, Sem.run_pure, Result.andThen_ok]; have k := key; simp only [Sem.run_bind, Sem.run_pure] at k; exact k _)
  all_goals cases h

theorem yieldsE_of_quiet {C : World → Prop} (hXr : ∀ w, X w w) {o : Oper} (hn : notCall o = true) {a : Act} {v : Value} (hw : Region.wanted o (yielded ops a.tmps) = true)
    (h : ∀ w, C w → o.quietAt P a C w v) : YieldsE P X ops C o v a := by
  refine .inl ⟨hw, fun w hC => ?_⟩
  have h1 := h w hC
  unfold Oper.quietAt at h1
  unfold quietE
  generalize hr : (execOp a.eval o).run P w = r at *
  cases r with
  | ok n w' =>
    cases n <;> simp only [Oper.quietUpon] at h1 <;> simp only
    case value u => exact ⟨by rw [h1.1]; exact hXr w, h1.2⟩
    case skip => exact ⟨by rw [h1.1]; exact hXr w, h1.2⟩
    case enter f args => exact absurd hr (notEnter hn _ _ _ _ _)
  | halt x w' => simp only [Oper.quietUpon] at h1

def nth {α : Type} : List α → Nat → Option α
  | [], _ => none
  | x :: _, 0 => some x
  | _ :: xs, k + 1 => nth xs k
theorem nth_eq {α : Type} : ∀ (l : List α) (k : Nat), nth l k = l[k]?
  | [], k => by simp [nth]
  | x :: xs, 0 => by simp [nth]
  | x :: xs, k + 1 => by simp [nth, nth_eq xs k]
theorem nth_arr {l : List Oper} {k : Nat} {o : Oper} (h : nth l k = some o) : l.toArray[k]? = some o := by rw [nth_eq] at h; simpa using h

section
variable {l : List Oper}
/-- A quiet operation that floats. -/
theorem can_st {k : Nat} {c : List Nat} {a : Act} {w : World} {o : Oper} (hXr : ∀ w, X w w) (ho : nth l k = some o) (hE : E k = false) (hSt : St k = true) (hPu : Pu k = false) (hn : notCall o = true) (hw : Region.wanted o (yielded l.toArray a.tmps) = true)
    (h : ∀ K : Act → Prop, (∀ a, Can P X l.toArray Q S E St Pu N c a w → K a) → o.quiet P a S K) : Can P X l.toArray Q S E St Pu N (k :: c) a w := by
  simp only [Can, nth_arr ho, hE, hSt, hPu, Bool.false_eq_true, if_false, if_true, false_or]
  obtain ⟨v, h1, h2⟩ := h _ (fun _ h => h)
  exact ⟨v, yieldsE_of_quiet hXr hn hw h1, h2⟩
theorem can_pu {k : Nat} {c : List Nat} {a : Act} {w : World} {o : Oper} (hXr : ∀ w, X w w) (ho : nth l k = some o) (hE : E k = false) (hSt : St k = true) (hPu : Pu k = true) (hn : notCall o = true) (hw : Region.wanted o (yielded l.toArray a.tmps) = true)
    (h : ∀ K : Act → Prop, (∀ a, Can P X l.toArray Q S E St Pu N c a w → K a) → o.quiet P a (fun _ => True) K) : Can P X l.toArray Q S E St Pu N (k :: c) a w := by
  simp only [Can, nth_arr ho, hE, hSt, hPu, Bool.false_eq_true, if_false, if_true, true_or]
  obtain ⟨v, h1, h2⟩ := h _ (fun _ h => h)
  exact ⟨v, yieldsE_of_quiet hXr hn hw h1, h2⟩
/-- A quiet operation that comes up ahead of all that act. -/
theorem can_early {k : Nat} {c : List Nat} {a : Act} {w : World} {o : Oper} (hXr : ∀ w, X w w) (ho : nth l k = some o) (hE : E k = false) (hSt : St k = false) (hn : notCall o = true) (hw : Region.wanted o (yielded l.toArray a.tmps) = true)
    (h : ∀ K : Act → Prop, (∀ a, Can P X l.toArray Q S E St Pu N c a w → K a) → o.quiet P a (X w) K) : Can P X l.toArray Q S E St Pu N (k :: c) a w := by
  simp only [Can, nth_arr ho, hE, hSt, Bool.false_eq_true, if_false]
  obtain ⟨v, h1, h2⟩ := h _ (fun _ h => h)
  exact ⟨v, yieldsE_of_quiet hXr hn hw h1, h2⟩
/-- One whose guard says no. -/
theorem can_skip {k : Nat} {c : List Nat} {a : Act} {w : World} {o : Oper} (ho : nth l k = some o) (hE : E k = false) (hw : Region.wanted o (yielded l.toArray a.tmps) = false)
    (h : Can P X l.toArray Q S E St Pu N c (a.put o.dst undef) w) : Can P X l.toArray Q S E St Pu N (k :: c) a w := by
  simp only [Can, nth_arr ho, hE, Bool.false_eq_true, if_false]
  exact ⟨undef, .inr ⟨hw, rfl⟩, h⟩
theorem can_act_skip {k : Nat} {c : List Nat} {a : Act} {w : World} {o : Oper} (ho : nth l k = some o) (hE : E k = true) (hw : Region.wanted o (yielded l.toArray a.tmps) = false)
    (h : ∀ w2, X w w2 → (N k = true → S w2) ∧ Can P X l.toArray Q S E St Pu N c (a.put o.dst undef) w2) : Can P X l.toArray Q S E St Pu N (k :: c) a w := by
  simp only [Can, nth_arr ho, hE, if_true]
  intro w2 hx
  unfold wpOp
  simp only [nth_arr ho, hw, Bool.false_eq_true, if_false]
  exact h w2 hx
/-- One that acts. -/
theorem can_act {k : Nat} {c : List Nat} {a : Act} {w : World} {o : Oper} (ho : nth l k = some o) (hE : E k = true) (hw : Region.wanted o (yielded l.toArray a.tmps) = true)
    (h : ∀ w2, X w w2 → ∀ K : Act → World → Prop, (∀ a' w', (N k = true → S w') ∧ Can P X l.toArray Q S E St Pu N c a' w' → K a' w') → o.wp P a w2 K Q) : Can P X l.toArray Q S E St Pu N (k :: c) a w := by
  simp only [Can, nth_arr ho, hE, if_true]
  intro w2 hx
  unfold wpOp
  simp only [nth_arr ho, hw, if_true]
  exact .inl (h w2 hx _ (fun _ _ h => h))
/-- .. the world being the very same, and nothing to be shown anew. -/
theorem can_act1 {k : Nat} {c : List Nat} {a : Act} {w : World} {o : Oper} (ho : nth l k = some o) (hE : E k = true) (hw : Region.wanted o (yielded l.toArray a.tmps) = true)
    (h : ∀ K : Act → World → Prop, (∀ a' w', Can P One l.toArray Q (fun _ => True) E St Pu N c a' w' → K a' w') → o.wp P a w K Q) : Can P One l.toArray Q (fun _ => True) E St Pu N (k :: c) a w :=
  can_act ho hE hw fun w2 hx K hK => by
    have : w2 = w := hx
    subst this
    exact h K fun a' w' hc => hK a' w' ⟨fun _ => trivial, hc⟩
theorem can_actS {k : Nat} {c : List Nat} {a : Act} {w : World} {o : Oper} (ho : nth l k = some o) (hE : E k = true) (_ : N k = true) (hw : Region.wanted o (yielded l.toArray a.tmps) = true)
    (h : ∀ K : Act → World → Prop, (∀ a' w', S w' ∧ Can P One l.toArray Q S E St Pu N c a' w' → K a' w') → o.wp P a w K Q) : Can P One l.toArray Q S E St Pu N (k :: c) a w :=
  can_act ho hE hw fun w2 hx K hK => by
    have : w2 = w := hx
    subst this
    exact h K fun a' w' ⟨h1, h2⟩ => hK a' w' ⟨fun _ => h1, h2⟩
theorem can_actF {k : Nat} {c : List Nat} {a : Act} {w : World} {o : Oper} (ho : nth l k = some o) (hE : E k = true) (hN : N k = false) (hw : Region.wanted o (yielded l.toArray a.tmps) = true)
    (h : ∀ K : Act → World → Prop, (∀ a' w', Can P One l.toArray Q S E St Pu N c a' w' → K a' w') → o.wp P a w K Q) : Can P One l.toArray Q S E St Pu N (k :: c) a w :=
  can_act ho hE hw fun w2 hx K hK => by
    have : w2 = w := hx
    subst this
    exact h K fun a' w' hc => hK a' w' ⟨(fun h => absurd (hN.symm.trans h) (by simp)), hc⟩
/-- A call that is quiet. -/
theorem can_call {k : Nat} {c : List Nat} {a : Act} {w : World} {o : Oper} {f : FuncId} {args : Array Value} (v : Value) (ho : nth l k = some o) (hE : E k = false) (hw : Region.wanted o (yielded l.toArray a.tmps) = true)
    (hf : ∀ w, (execOp a.eval o).run P w = .ok (.enter f args) w) (hc : ∀ w2, (if St k then (fun w => Pu k = true ∨ S w) else X w) w2 → Calls P f args w2 fun e w'' => e = .returned v ∧ X w2 w'')
    (h : Can P X l.toArray Q S E St Pu N c (a.put o.dst v) w) : Can P X l.toArray Q S E St Pu N (k :: c) a w := by
  simp only [Can, nth_arr ho, hE, Bool.false_eq_true, if_false]
  refine ⟨v, .inl ⟨hw, fun w2 hC => ?_⟩, h⟩
  unfold quietE
  rw [hf w2]
  exact hc w2 hC
theorem can_end1 {a : Act} {w : World} (h : Q .normal a w) : Can P One l.toArray (Calm Q) S E St Pu N [] a w := fun w2 hx => by
  have : w2 = w := hx
  subst this
  exact h
theorem can_end {a : Act} {w : World} (h : ∀ w2, X w w2 → Q .normal a w2) : Can P X l.toArray (Calm Q) S E St Pu N [] a w := h
/-- A load, whatever the class of worlds. -/
theorem quiet_load {C : World → Prop} {o : Oper} {act : Act} {K : Act → Prop} {t : TypeId} {x : Operand} {a : Addr} {v : Value} (hop : o.op = .load t x) (hagg : ∀ w, (isAgg t).run P w = .ok false w) (ha : act.eval x = .pointer (some a)) (hc : ∀ w, C w → w.cell? a = some v)
    (hk : K (act.put o.dst v)) : o.quiet P act C K := by
  refine ⟨v, fun w hC => ?_, hk⟩
  unfold Oper.quietAt
  have h1 := hc w hC
  simp [execOp, hop, ha, Instr.loadAt, Instr.sureAddr, loadVar, hagg, h1, Oper.quietUpon]
theorem can_early1 {k : Nat} {c : List Nat} {a : Act} {w : World} {o : Oper} (ho : nth l k = some o) (hE : E k = false) (hSt : St k = false) (hn : notCall o = true) (hw : Region.wanted o (yielded l.toArray a.tmps) = true)
    (h : ∀ K : Act → Prop, (∀ a, Can P One l.toArray Q S E St Pu N c a w → K a) → o.quiet P a (fun w2 => w2 = w) K) : Can P One l.toArray Q S E St Pu N (k :: c) a w :=
  can_early (fun _ => rfl) ho hE hSt hn hw h
theorem can_st1 {k : Nat} {c : List Nat} {a : Act} {w : World} {o : Oper} (ho : nth l k = some o) (hE : E k = false) (hSt : St k = true) (hPu : Pu k = false) (hn : notCall o = true) (hw : Region.wanted o (yielded l.toArray a.tmps) = true)
    (h : ∀ K : Act → Prop, (∀ a, Can P One l.toArray Q S E St Pu N c a w → K a) → o.quiet P a S K) : Can P One l.toArray Q S E St Pu N (k :: c) a w :=
  can_st (fun _ => rfl) ho hE hSt hPu hn hw h
theorem can_pu1 {k : Nat} {c : List Nat} {a : Act} {w : World} {o : Oper} (ho : nth l k = some o) (hE : E k = false) (hSt : St k = true) (hPu : Pu k = true) (hn : notCall o = true) (hw : Region.wanted o (yielded l.toArray a.tmps) = true)
    (h : ∀ K : Act → Prop, (∀ a, Can P One l.toArray Q S E St Pu N c a w → K a) → o.quiet P a (fun _ => True) K) : Can P One l.toArray Q S E St Pu N (k :: c) a w :=
  can_pu (fun _ => rfl) ho hE hSt hPu hn hw h
/-- A call that is quiet and leaves the very same world. -/
theorem can_call1 {k : Nat} {c : List Nat} {a : Act} {w : World} {o : Oper} {f : FuncId} {args : Array Value} {v : Value} (ho : nth l k = some o) (hE : E k = false) (hSt : St k = false) (hw : Region.wanted o (yielded l.toArray a.tmps) = true)
    (hf : ∀ w, (execOp a.eval o).run P w = .ok (.enter f args) w) (hc : Calls P f args w fun e w'' => e = .returned v ∧ w'' = w)
    (h : Can P One l.toArray Q S E St Pu N c (a.put o.dst v) w) : Can P One l.toArray Q S E St Pu N (k :: c) a w :=
  can_call v ho hE hw hf (fun w2 h2 => by
    rw [hSt] at h2
    have : w2 = w := h2
    subst this
    exact hc) h
theorem One.rfl (w : World) : One w w := Eq.refl w
end
end
end Go.Sl

namespace Go.Sl
set_option linter.unusedSimpArgs false
set_option linter.unusedVariables false
open Go Go.RowKit

/-- A key of a plain kind. -/
def PlainKey : TypeDesc → Value → Prop
  | .int q, .int q' _ => q = q'
  | .string, .string _ => True
  | .bool, .bool _ => True
  | _, _ => False

noncomputable def updV (f : Value → Option Value) (k v : Value) (x : Value) : Option Value := by classical exact if x = k then some v else f x
noncomputable def delV (f : Value → Option Value) (k : Value) (x : Value) : Option Value := by classical exact if x = k then none else f x
theorem updV_same (f : Value → Option Value) (k v : Value) : updV f k v k = some v := by simp [updV]
theorem updV_other (f : Value → Option Value) {k x : Value} (v : Value) (h : x ≠ k) : updV f k v x = f x := by simp [updV, h]
theorem delV_same (f : Value → Option Value) (k : Value) : delV f k k = none := by simp [delV]
theorem delV_other (f : Value → Option Value) {k x : Value} (h : x ≠ k) : delV f k x = f x := by simp [delV, h]

/-- The entries es under the clock give f. -/
structure MapOk (d : TypeDesc) (es : Array MapEntry) (clock : Nat) (f : Value → Option Value) (n : Nat) : Prop where
  keys : ∀ e ∈ es.toList, PlainKey d e.key
  apart : (es.toList.map (·.key)).Nodup
  stamps : (es.toList.map (·.born)).Nodup
  young : ∀ e ∈ es.toList, e.born < clock
  gives : ∀ e ∈ es.toList, f e.key = some e.val
  all : ∀ k v, f k = some v → ∃ e ∈ es.toList, e.key = k ∧ e.val = v
  size : es.size = n

def mapP (d : TypeDesc) (f : Value → Option Value) (n : Nat) (o : Obj) : Prop := ∃ es clock, o = .map es clock ∧ MapOk d es clock f n
def mapA (b : Nat) (d : TypeDesc) (f : Value → Option Value) (n : Nat) : Atom := (b, mapP d f n)

theorem sameNow_plain {d : TypeDesc} {a b : Value} (ha : PlainKey d a) (hb : PlainKey d b) : ∃ r, Instr.sameNow d a b = some r ∧ (r = true ↔ b = a) := by
  cases d <;> cases a <;> cases b <;> simp only [PlainKey] at ha hb <;> simp only [Instr.sameNow]
  case int.int.int q q1 x q2 y =>
    subst ha; subst hb
    refine ⟨x == y, by rw [if_pos rfl], ?_⟩
    rw [beq_iff_eq]
    exact ⟨fun h => by rw [h], fun h => by cases h; rfl⟩
  case string.string.string x y =>
    refine ⟨x == y, rfl, ?_⟩
    rw [MapKept.bytes_beq]
    exact ⟨fun h => by rw [h], fun h => by cases h; rfl⟩
  case bool.bool.bool x y =>
    refine ⟨x == y, rfl, ?_⟩
    rw [beq_iff_eq]
    exact ⟨fun h => by rw [h], fun h => by cases h; rfl⟩

theorem findNow_some {d : TypeDesc} {k : Value} (hk : PlainKey d k) : ∀ (es : List MapEntry) (i : Nat), (∀ e ∈ es, PlainKey d e.key) →
    (Instr.findNow d k es i = some none ∧ ∀ e ∈ es, e.key ≠ k) ∨ ∃ j e, Instr.findNow d k es i = some (some (i + j, e.val)) ∧ es[j]? = some e ∧ e.key = k
  | [], _, _ => .inl ⟨rfl, by simp⟩
  | e :: es, i, h => by
    obtain ⟨r, hr, hr'⟩ := sameNow_plain hk (h e (by simp))
    cases r with
    | true => exact .inr ⟨0, e, by simp [Instr.findNow, hr], rfl, hr'.1 rfl⟩
    | false =>
      have hne : e.key ≠ k := fun he => by have := hr'.2 he; cases this
      rcases findNow_some hk es (i + 1) (fun e he => h e (by simp [he])) with ⟨h1, h2⟩ | ⟨j, e', h1, h2, h3⟩
      · exact .inl ⟨by simp [Instr.findNow, hr, h1], by simpa [hne] using h2⟩
      · exact .inr ⟨j + 1, e', by simp [Instr.findNow, hr, h1]; omega, by simpa using h2, h3⟩

theorem nodup_inj {α : Type} {l : List α} (h : l.Nodup) {i j : Nat} {x : α} (h1 : l[i]? = some x) (h2 : l[j]? = some x) : i = j := by
  obtain ⟨a1, b1⟩ := List.getElem?_eq_some_iff.1 h1
  obtain ⟨a2, b2⟩ := List.getElem?_eq_some_iff.1 h2
  have hp := List.pairwise_iff_getElem.1 (List.nodup_iff_pairwise_ne.1 h)
  rcases Nat.lt_trichotomy i j with hl | hl | hl
  · exact absurd (b1.trans b2.symm) (hp i j a1 a2 hl)
  · exact hl
  · exact absurd (b2.trans b1.symm) (hp j i a2 a1 hl)

theorem perm_eraseIdx {α : Type} : ∀ {l : List α} {j : Nat} {x : α}, l[j]? = some x → l.Perm (x :: l.eraseIdx j)
  | [], j, x, h => by simp at h
  | y :: l, 0, x, h => by simp at h; subst h; simp
  | y :: l, j + 1, x, h => by
    simp only [List.getElem?_cons_succ] at h
    simp only [List.eraseIdx_cons_succ]
    exact ((perm_eraseIdx h).cons y).trans (.swap ..)

section
variable {P : Program} {w : World}

theorem run_findKey' {t : TypeId} {d : TypeDesc} (ht : P.underlying t = some d) {k : Value} (hk : PlainKey d k) {es : List MapEntry} (hes : ∀ e ∈ es, PlainKey d e.key) :
    ((Instr.findKey t k es).run P w = .ok none w ∧ ∀ e ∈ es, e.key ≠ k) ∨ ∃ j e, (Instr.findKey t k es).run P w = .ok (some (j, e.val)) w ∧ es[j]? = some e ∧ e.key = k := by
  rcases findNow_some hk es 0 hes with ⟨h1, h2⟩ | ⟨j, e, h1, h2, h3⟩
  · exact .inl ⟨by simp [Instr.findKey, run_underlying ht, h1], h2⟩
  · exact .inr ⟨j, e, by simp [Instr.findKey, run_underlying ht, h1], h2, h3⟩

theorem run_checkKey' {t : TypeId} {d : TypeDesc} (ht : P.underlying t = some d) {k : Value} (hk : PlainKey d k) (em : Bool) (n : Nat) : (Instr.checkKey em (n + 1) t k).run P w = .ok () w := by
  cases d <;> cases k <;> simp only [PlainKey] at hk <;> simp [Instr.checkKey, run_underlying ht]

theorem run_keyThatStays' {d : TypeDesc} {k : Value} (hk : PlainKey d k) : (Instr.keyThatStays k k).run P w = .ok k w := by
  cases d <;> cases k <;> simp only [PlainKey] at hk <;> simp [Instr.keyThatStays, Instr.sameBits, (MapKept.bytes_beq _ _).2 rfl]

variable {d : TypeDesc} {es : Array MapEntry} {clock n : Nat} {f : Value → Option Value}

theorem MapOk.none_iff (h : MapOk d es clock f n) {k : Value} : f k = none ↔ ∀ e ∈ es.toList, e.key ≠ k := by
  constructor
  · intro hk e he hek
    have := h.gives e he
    rw [hek, hk] at this
    cases this
  · intro hk
    cases hf : f k with
    | none => rfl
    | some v =>
      obtain ⟨e, he, h1, _⟩ := h.all k v hf
      exact absurd h1 (hk e he)

theorem MapOk.find {t : TypeId} (h : MapOk d es clock f n) (ht : P.underlying t = some d) {k : Value} (hk : PlainKey d k) :
    (f k = none ∧ (Instr.findKey t k es.toList).run P w = .ok none w) ∨ ∃ j e, f k = some e.val ∧ (Instr.findKey t k es.toList).run P w = .ok (some (j, e.val)) w ∧ es.toList[j]? = some e ∧ e.key = k := by
  rcases run_findKey' (w := w) ht hk h.keys with ⟨h1, h2⟩ | ⟨j, e, h1, h2, h3⟩
  · exact .inl ⟨h.none_iff.2 h2, h1⟩
  · refine .inr ⟨j, e, ?_, h1, h2, h3⟩
    rw [← h3]
    exact h.gives e (List.mem_of_getElem? h2)

theorem MapOk.empty (d : TypeDesc) (c : Nat) : MapOk d #[] c (fun _ => none) 0 := ⟨by simp, by simp, by simp, by simp, by simp, by simp, by simp⟩

theorem MapOk.push (h : MapOk d es clock f n) {k v : Value} (hk : PlainKey d k) (hf : f k = none) : MapOk d (es.push { key := k, val := v, born := clock }) (clock + 1) (updV f k v) (n + 1) where
  keys := by
    intro e he
    simp only [Array.toList_push, List.mem_append, List.mem_singleton] at he
    rcases he with he | rfl
    · exact h.keys e he
    · exact hk
  apart := by
    have := h.none_iff.1 hf
    simp only [Array.toList_push, List.map_append, List.map_cons, List.map_nil, List.nodup_append, h.apart, true_and]
    refine ⟨by simp, fun a ha b hb => ?_⟩
    obtain ⟨e, he, rfl⟩ := List.mem_map.1 ha
    simp only [List.mem_singleton] at hb
    subst hb
    exact this e he
  stamps := by
    simp only [Array.toList_push, List.map_append, List.map_cons, List.map_nil, List.nodup_append, h.stamps, true_and]
    refine ⟨by simp, fun a ha b hb => ?_⟩
    obtain ⟨e, he, rfl⟩ := List.mem_map.1 ha
    simp only [List.mem_singleton] at hb
    subst hb
    exact Nat.ne_of_lt (h.young e he)
  young := by
    intro e he
    simp only [Array.toList_push, List.mem_append, List.mem_singleton] at he
    rcases he with he | rfl
    · have := h.young e he; omega
    · simp
  gives := by
    intro e he
    simp only [Array.toList_push, List.mem_append, List.mem_singleton] at he
    rcases he with he | rfl
    · have := h.none_iff.1 hf e he
      rw [updV_other _ _ (fun e2 => by rw [← e2, h.gives e he] at hf; cases hf), h.gives e he]
    · exact updV_same ..
  all := by
    intro x u hx
    by_cases e : x = k
    · rw [e, updV_same] at hx
      exact ⟨{ key := k, val := v, born := clock }, by simp, e.symm, Option.some.inj hx⟩
    · rw [updV_other _ _ e] at hx
      obtain ⟨y, hy, h1, h2⟩ := h.all x u hx
      exact ⟨y, by simp [hy], h1, h2⟩
  size := by simp [h.size]

/-- The value of one entry is written anew. -/
theorem MapOk.set (h : MapOk d es clock f n) {j : Nat} {e : MapEntry} (hj : es.toList[j]? = some e) (v : Value) : MapOk d (es.modify j fun e => { e with val := v }) clock (updV f e.key v) n := by
  have hlt : j < es.size := by have := (List.getElem?_eq_some_iff.1 hj).1; simpa using this
  have hmod : (es.modify j fun e => { e with val := v }).toList = es.toList.set j { e with val := v } := by
    rw [Array.toList_modify]
    apply List.ext_getElem?
    intro i
    rw [List.getElem?_modify, List.getElem?_set]
    by_cases hij : j = i
    · subst hij
      have := (List.getElem?_eq_some_iff.1 hj).2
      simp at this
      simp [hlt, this]
    · simp [hij]
  have hkeys : (es.toList.set j { e with val := v }).map (·.key) = es.toList.map (·.key) := by
    rw [List.map_set]
    apply List.ext_getElem?
    intro i
    rw [List.getElem?_set]
    by_cases hij : j = i
    · subst hij
      have := (List.getElem?_eq_some_iff.1 hj).2
      simp at this
      simp [hlt, this]
    · simp [hij]
  have hborn : (es.toList.set j { e with val := v }).map (·.born) = es.toList.map (·.born) := by
    rw [List.map_set]
    apply List.ext_getElem?
    intro i
    rw [List.getElem?_set]
    by_cases hij : j = i
    · subst hij
      have := (List.getElem?_eq_some_iff.1 hj).2
      simp at this
      simp [hlt, this]
    · simp [hij]
  have hinj : ∀ x ∈ es.toList, ∀ i, es.toList[i]? = some x → i ≠ j → x.key ≠ e.key := by
    intro x _ i hi hij hk
    have h1 : (es.toList.map (·.key))[i]? = some e.key := by simp [hi, hk]
    have h2 : (es.toList.map (·.key))[j]? = some e.key := by simp [hj]
    exact hij (nodup_inj h.apart h1 h2)
  have hmem : ∀ x, x ∈ es.toList.set j { e with val := v } → (x = { e with val := v }) ∨ (x ∈ es.toList ∧ x.key ≠ e.key) := by
    intro x hx
    obtain ⟨i, hi⟩ := List.getElem?_of_mem hx
    rw [List.getElem?_set] at hi
    by_cases hij : j = i
    · subst hij; simp [hlt] at hi; exact .inl hi.symm
    · rw [if_neg hij] at hi
      have hm := List.mem_of_getElem? hi
      exact .inr ⟨hm, hinj x hm i hi (Ne.symm hij)⟩
  refine ⟨?_, ?_, ?_, ?_, ?_, ?_, by simp [h.size]⟩ <;> simp only [hmod]
  · intro x hx
    rcases hmem x hx with rfl | ⟨hx, _⟩
    · exact h.keys e (List.mem_of_getElem? hj)
    · exact h.keys x hx
  · rw [hkeys]; exact h.apart
  · rw [hborn]; exact h.stamps
  · intro x hx
    rcases hmem x hx with rfl | ⟨hx, _⟩
    · exact h.young e (List.mem_of_getElem? hj)
    · exact h.young x hx
  · intro x hx
    rcases hmem x hx with rfl | ⟨hx, hne⟩
    · exact updV_same ..
    · rw [updV_other _ _ hne, h.gives x hx]
  · intro x u hx
    by_cases he : x = e.key
    · rw [he, updV_same] at hx
      refine ⟨{ e with val := v }, ?_, he.symm, Option.some.inj hx⟩
      exact List.mem_of_getElem? (i := j) (by simp [hlt])
    · rw [updV_other _ _ he] at hx
      obtain ⟨y, hy, h1, h2⟩ := h.all x u hx
      obtain ⟨i, hi⟩ := List.getElem?_of_mem hy
      refine ⟨y, List.mem_of_getElem? (i := i) ?_, h1, h2⟩
      have hij : j ≠ i := by
        rintro rfl
        rw [hj] at hi
        cases hi
        exact he h1.symm
      simp [hij, hi]

theorem MapOk.erase (h : MapOk d es clock f n) {j : Nat} {e : MapEntry} (hj : es.toList[j]? = some e) : MapOk d (es.eraseIdxIfInBounds j) clock (delV f e.key) (n - 1) := by
  have hlt : j < es.size := by have := (List.getElem?_eq_some_iff.1 hj).1; simpa using this
  have hl : (es.eraseIdxIfInBounds j).toList = es.toList.eraseIdx j := by simp [Array.eraseIdxIfInBounds, hlt]
  have hsub : (es.toList.eraseIdx j).Sublist es.toList := List.eraseIdx_sublist _ _
  have hne : ∀ x ∈ es.toList.eraseIdx j, x.key ≠ e.key := by
    intro x hx hk
    have hp : (es.toList.map (·.key)).Perm (e.key :: (es.toList.eraseIdx j).map (·.key)) := by
      have h1 : es.toList.Perm (e :: es.toList.eraseIdx j) := perm_eraseIdx hj
      simpa using h1.map (·.key)
    have := hp.nodup_iff.1 h.apart
    rw [List.nodup_cons] at this
    exact this.1 (List.mem_map.2 ⟨x, hx, hk⟩)
  refine ⟨?_, ?_, ?_, ?_, ?_, ?_, ?_⟩ <;> (try simp only [hl])
  · exact fun x hx => h.keys x (hsub.subset hx)
  · exact (hsub.map _).nodup h.apart
  · exact (hsub.map _).nodup h.stamps
  · exact fun x hx => h.young x (hsub.subset hx)
  · intro x hx
    rw [delV_other _ (hne x hx), h.gives x (hsub.subset hx)]
  · intro x u hx
    by_cases he : x = e.key
    · rw [he, delV_same] at hx; cases hx
    · rw [delV_other _ he] at hx
      obtain ⟨y, hy, h1, h2⟩ := h.all x u hx
      obtain ⟨i, hi⟩ := List.getElem?_of_mem hy
      have hij : i ≠ j := by
        rintro rfl
        rw [hj] at hi
        cases hi
        exact he h1.symm
      refine ⟨y, ?_, h1, h2⟩
      rw [List.mem_eraseIdx_iff_getElem?]
      exact ⟨i, hij, hi⟩
  · rw [← Array.length_toList, hl, List.length_eraseIdx]
    have := h.size
    simp [this]
    omega

/-! ### the operations -/
variable {W : World} {L F : List Atom} {b : Nat} {t k e : TypeId} {key z v : Value}

theorem lookup_sl (hs : Sat W w L) (hm : mapA b d f n ∈ L) (ht : P.underlying t = some (.map k e)) (hk : P.underlying k = some d) (hkey : PlainKey d key) (hz : (zeroValue e).run P w = .ok z w) (ok : Bool) :
    (Instr.lookup t (.map (some b)) key ok).run P w = .ok (if ok then .tuple #[(f key).getD z, .bool (f key).isSome] else (f key).getD z) w := by
  obtain ⟨o, ho, es, clock, rfl, h⟩ := hs.get hm
  have hc := run_checkKey' (P := P) (w := w) hk hkey es.isEmpty 9999
  have hgo : (getObj b).run P w = .ok (.map es clock) w := by simp [getObj, Sem.run, ho]
  rcases h.find (w := w) hk hkey with ⟨h1, h2⟩ | ⟨j, e', h1, h2, _, _⟩
  · simp [Instr.lookup, run_underlying ht, hgo, hc, h2, hz, h1]
  · simp [Instr.lookup, run_underlying ht, hgo, hc, h2, h1]

theorem setObj_sl (hs : Sat W w ((b, mapP d f n) :: F)) (es' : Array MapEntry) (clock' : Nat) {p : Obj → Prop} (hp : p (.map es' clock')) :
    ∃ w', (setObj b (.map es' clock')).run P w = .ok () w' ∧ Sat W w' ((b, p) :: F) := by
  obtain ⟨o, ho, es, clock, rfl, h⟩ := hs.head
  have hlt : b < w.heap.size := (Array.getElem?_eq_some_iff.1 ho).1
  refine ⟨_, by simp only [setObj, Sem.run, ho]; rfl, ?_⟩
  refine hs.turn ⟨rfl, rfl, rfl, by simp⟩ (fun i _ hi => ?_) ⟨.map es' clock', ?_, hp⟩
  · simp [Ne.symm hi]
  · simp [hlt]

theorem modify_val {es : Array MapEntry} {j : Nat} {e' : MapEntry} (hj : es.toList[j]? = some e') (v : Value) :
    (es.modify j fun e => { e with key := e'.key, val := v }) = es.modify j fun e => { e with val := v } := by
  apply Array.ext_getElem?
  intro i
  simp only [Array.getElem?_modify]
  by_cases h : j = i
  · subst h
    have hj' : es[j]? = some e' := by simpa using hj
    simp [hj']
  · simp [h]

theorem modify_key {es : Array MapEntry} {j : Nat} {e' : MapEntry} (hj : es.toList[j]? = some e') :
    (es.modify j fun e => { e with key := e'.key }) = es := by
  apply Array.ext_getElem?
  intro i
  simp only [Array.getElem?_modify]
  by_cases h : j = i
  · subst h
    have hj' : es[j]? = some e' := by simpa using hj
    simp [hj']
  · simp [h]

/-- m[key] = v -/
theorem mapUpdate_sl (hs : Sat W w (mapA b d f n :: F)) (ht : P.underlying t = some (.map k e)) (hk : P.underlying k = some d) (hkey : PlainKey d key) (v : Value) :
    ∃ w', (Instr.mapUpdate t (.map (some b)) key v).run P w = .ok () w' ∧ Sat W w' (mapA b d (updV f key v) (if (f key).isSome then n else n + 1) :: F) := by
  obtain ⟨o, ho, es, clock, rfl, h⟩ := hs.head
  have hc := run_checkKey' (P := P) (w := w) hk hkey false 9999
  have hgo : (getObj b).run P w = .ok (.map es clock) w := by simp [getObj, Sem.run, ho]
  rcases h.find (w := w) hk hkey with ⟨h1, h2⟩ | ⟨j, e', h1, h2, h3, h4⟩
  · obtain ⟨w', hr, hs'⟩ := setObj_sl (P := P) hs (es.push { key := key, val := v, born := clock }) (clock + 1) (p := mapP d (updV f key v) (n + 1)) ⟨_, _, rfl, h.push hkey h1⟩
    refine ⟨w', ?_, by simpa [h1, mapA] using hs'⟩
    simp [Instr.mapUpdate, run_underlying ht, hgo, hc, h2, hr]
  · subst h4
    obtain ⟨w', hr, hs'⟩ := setObj_sl (P := P) hs (es.modify j fun e => { e with val := v }) clock (p := mapP d (updV f e'.key v) n) ⟨_, _, rfl, h.set h3 v⟩
    refine ⟨w', ?_, by simpa [h1, mapA] using hs'⟩
    have hj' : es[j]? = some e' := by simpa using h3
    have hst := run_keyThatStays' (P := P) (w := w) hkey
    simp [Instr.mapUpdate, run_underlying ht, hgo, hc, h2, hj', hst, modify_val h3, hr]

/-- The map's block between the two steps of 'm[key] = v' in a tuple assignment: key is there, its stamp is s. -/
def stampP (d : TypeDesc) (f : Value → Option Value) (n : Nat) (key : Value) (s : Nat) (o : Obj) : Prop :=
  ∃ es clock, o = .map es clock ∧ MapOk d es clock f n ∧ ∃ e ∈ es.toList, e.key = key ∧ e.born = s

theorem mapEntry_sl (hs : Sat W w (mapA b d f n :: F)) (ht : P.underlying t = some (.map k e)) (hk : P.underlying k = some d) (hkey : PlainKey d key) (hz : (zeroValue e).run P w = .ok z w) :
    ∃ w', ∃ s : Nat, (Instr.mapEntry t (.map (some b)) key).run P w = .ok (.tuple #[(f key).getD z, .int .i64 (s : Int)]) w' ∧ Sat W w' ((b, stampP d (updV f key ((f key).getD z)) (if (f key).isSome then n else n + 1) key s) :: F) := by
  obtain ⟨o, ho, es, clock, rfl, h⟩ := hs.head
  have hc := run_checkKey' (P := P) (w := w) hk hkey false 9999
  have hgo : (getObj b).run P w = .ok (.map es clock) w := by simp [getObj, Sem.run, ho]
  rcases h.find (w := w) hk hkey with ⟨h1, h2⟩ | ⟨j, e', h1, h2, h3, h4⟩
  · obtain ⟨w', hr, hs'⟩ := setObj_sl (P := P) hs (es.push { key := key, val := z, born := clock }) (clock + 1) (p := stampP d (updV f key z) (n + 1) key clock) ⟨_, _, rfl, h.push hkey h1, { key := key, val := z, born := clock }, by simp, rfl, rfl⟩
    refine ⟨w', clock, ?_, by simpa [h1, mapA] using hs'⟩
    simp [Instr.mapEntry, run_underlying ht, hgo, hc, h2, hz, hr, h1, goInt]
  · subst h4
    have hup : updV f e'.key e'.val = f := by
      funext x
      by_cases hx : x = e'.key
      · rw [hx, updV_same, h1]
      · rw [updV_other _ _ hx]
    obtain ⟨w', hr, hs'⟩ := setObj_sl (P := P) hs es clock (p := stampP d f n e'.key e'.born) ⟨_, _, rfl, h, _, List.mem_of_getElem? h3, rfl, rfl⟩
    refine ⟨w', e'.born, ?_, by simpa [h1, hup] using hs'⟩
    have hj' : es[j]? = some e' := by simpa using h3
    have hst := run_keyThatStays' (P := P) (w := w) hkey
    simp [Instr.mapEntry, run_underlying ht, hgo, hc, h2, hj', hst, modify_key h3, hr, h1, goInt]

theorem entryStore_sl {s : Nat} (hs : Sat W w ((b, stampP d f n key s) :: F)) (v : Value) :
    ∃ w', (Instr.entryStore t (.map (some b)) (.int .i64 (s : Int)) v).run P w = .ok () w' ∧ Sat W w' (mapA b d (updV f key v) n :: F) := by
  obtain ⟨o, ho, es, clock, rfl, h, e0, he0, rfl, rfl⟩ := hs.head
  have hgo : (getObj b).run P w = .ok (.map es clock) w := by simp [getObj, Sem.run, ho]
  obtain ⟨j, hj⟩ := List.getElem?_of_mem he0
  have hj' : es[j]? = some e0 := by simpa using hj
  have hjl := (List.getElem?_eq_some_iff.1 hj)
  have hf : es.findIdx? (fun e => (e.born : Int) == (e0.born : Int)) = some j := by
    rw [Array.findIdx?_eq_some_iff_findIdx_eq] 
    have hsz : j < es.size := by simpa using hjl.1
    refine ⟨hsz, ?_⟩
    rw [Array.findIdx_eq hsz]
    have hje : es[j] = e0 := by simpa using hjl.2
    refine ⟨by simp [hje], fun i hi => ?_⟩
    have hne : (es[i]'(by omega)).born ≠ e0.born := by
      intro hb
      have h1 : (es.toList.map (·.born))[i]? = some e0.born := by simp [show i < es.size by omega, hb]
      have h2 : (es.toList.map (·.born))[j]? = some e0.born := by simp [hj]
      have := nodup_inj h.stamps h1 h2
      omega
    simp only [beq_eq_false_iff_ne, ne_eq]
    omega
  have hs2 : Sat W w ((b, mapP d f n) :: F) := hs.turn (Inert.refl w) (fun _ _ _ => rfl) ⟨_, ho, _, _, rfl, h⟩
  obtain ⟨w', hr, hs'⟩ := setObj_sl (P := P) hs2 (es.modify j fun e => { e with val := v }) clock (p := mapP d (updV f e0.key v) n) ⟨_, _, rfl, h.set hj v⟩
  refine ⟨w', ?_, hs'⟩
  simp [Instr.entryStore, hgo, asInt, asIntOf, hf, hr]

theorem updV_updV (f : Value → Option Value) (k u v : Value) : updV (updV f k u) k v = updV f k v := by
  funext x
  by_cases hx : x = k
  · rw [hx, updV_same, updV_same]
  · rw [updV_other _ _ hx, updV_other _ _ hx, updV_other _ _ hx]

theorem delete_sl (hs : Sat W w (mapA b d f n :: F)) (ht : P.underlying t = some (.map k e)) (hk : P.underlying k = some d) (hkey : PlainKey d key) (u ty : TypeId) :
    ∃ w', (Builtin.delete_ #[t, u] ty #[.map (some b), key]).run P w = .ok (.tuple #[]) w' ∧ Sat W w' (mapA b d (delV f key) (if (f key).isSome then n - 1 else n) :: F) := by
  obtain ⟨o, ho, es, clock, rfl, h⟩ := hs.head
  have hc := run_checkKey' (P := P) (w := w) hk hkey es.isEmpty 9999
  have hgo : (getObj b).run P w = .ok (.map es clock) w := by simp [getObj, Sem.run, ho]
  rcases h.find (w := w) hk hkey with ⟨h1, h2⟩ | ⟨j, e', h1, h2, h3, h4⟩
  · have hd : delV f key = f := by
      funext x
      by_cases hx : x = key
      · rw [hx, delV_same, h1]
      · rw [delV_other _ hx]
    obtain ⟨w', hr, hs'⟩ := setObj_sl (P := P) hs es clock (p := mapP d f n) ⟨_, _, rfl, h⟩
    refine ⟨w', ?_, by simpa [h1, hd, mapA] using hs'⟩
    simp [Builtin.delete_, run_underlying ht, hgo, hc, h2, hr]
  · subst h4
    obtain ⟨w', hr, hs'⟩ := setObj_sl (P := P) hs (es.eraseIdxIfInBounds j) clock (p := mapP d (delV f e'.key) (n - 1)) ⟨_, _, rfl, h.erase h3⟩
    refine ⟨w', ?_, by simpa [h1, mapA] using hs'⟩
    simp [Builtin.delete_, run_underlying ht, hgo, hc, h2, hr]

theorem len_sl (hs : Sat W w L) (hm : mapA b d f n ∈ L) (ht : P.underlying t = some (.map k e)) (ty : TypeId) : (Builtin.len_ #[t] ty #[.map (some b)]).run P w = .ok (.int .i64 (n : Int)) w := by
  obtain ⟨o, ho, es, clock, rfl, h⟩ := hs.get hm
  have hgo : (getObj b).run P w = .ok (.map es clock) w := by simp [getObj, Sem.run, ho]
  simp [Builtin.len_, run_underlying ht, hgo, h.size, goInt]

theorem clear_sl (hs : Sat W w (mapA b d f n :: F)) (ht : P.underlying t = some (.map k e)) (ty : TypeId) :
    ∃ w', (Builtin.clear_ #[t] ty #[.map (some b)]).run P w = .ok (.tuple #[]) w' ∧ Sat W w' (mapA b d (fun _ => none) 0 :: F) := by
  obtain ⟨o, ho, es, clock, rfl, h⟩ := hs.head
  have hgo : (getObj b).run P w = .ok (.map es clock) w := by simp [getObj, Sem.run, ho]
  obtain ⟨w', hr, hs'⟩ := setObj_sl (P := P) hs #[] clock (p := mapP d (fun _ => none) 0) ⟨_, _, rfl, MapOk.empty d clock⟩
  refine ⟨w', ?_, hs'⟩
  simp [Builtin.clear_, run_underlying ht, hgo, hr]

theorem newMap_sl (hs : Sat W w F) (d : TypeDesc) : Sat W (w.alloc (.map #[] 0)) (mapA w.heap.size d (fun _ => none) 0 :: F) := hs.new _ ⟨_, _, rfl, MapOk.empty d 0⟩
end
end Go.Sl

namespace Go.Sl
set_option linter.unusedSimpArgs false
set_option linter.unusedVariables false
open Go Go.RowKit

/-- The map in block b has exactly these entries. -/
def mapE (b : Nat) (es : Array MapEntry) (clock : Nat) : Atom := (b, fun o => o = .map es clock)
def iterA (r b clock : Nat) (seen : Array Nat) : Atom := (r, fun o => o = .mapIter (some b) clock seen clock)

section
variable {W w : World} {L : List Atom} {d : TypeDesc} {f : Value → Option Value} {n b r : Nat}

theorem Sat.openMap (h : Sat W w (mapA b d f n :: L)) : ∃ es clock, MapOk d es clock f n ∧ Sat W w (mapE b es clock :: L) := by
  obtain ⟨o, ho, es, clock, rfl, hm⟩ := h.head
  exact ⟨es, clock, hm, h.turn (Inert.refl w) (fun _ _ _ => rfl) ⟨_, ho, rfl⟩⟩

theorem Sat.shutMap {es : Array MapEntry} {clock : Nat} (hm : MapOk d es clock f n) (h : Sat W w (mapE b es clock :: L)) : Sat W w (mapA b d f n :: L) := by
  obtain ⟨o, ho, rfl⟩ := h.head
  exact h.turn (Inert.refl w) (fun _ _ _ => rfl) ⟨_, ho, es, clock, rfl, hm⟩

theorem range_sl {P : Program} {es : Array MapEntry} {clock : Nat} {t k e : TypeId} (ht : P.underlying t = some (.map k e)) (h : Sat W w (mapE b es clock :: L)) :
    (Instr.range t (.map (some b))).run P w = .ok (.pointer (some ⟨w.heap.size, 0, none⟩)) (w.alloc (.mapIter (some b) clock #[] clock)) ∧
      Sat W (w.alloc (.mapIter (some b) clock #[] clock)) (iterA w.heap.size b clock #[] :: mapE b es clock :: L) := by
  obtain ⟨o, ho, rfl⟩ := h.head
  exact ⟨run_range_map w t k e b es clock ht ho, h.new _ rfl⟩

theorem heap_setBlock (w : World) (r : Nat) (o : Obj) (k : Nat) (h : k ≠ r) : (ChangeMaps.setBlock w r o).heap[k]? = w.heap[k]? := by
  simp only [ChangeMaps.setBlock, Array.getElem?_setIfInBounds]
  rw [if_neg (Ne.symm h)]

theorem next_sl {P : Program} {es : Array MapEntry} {clock : Nat} {seen : Array Nat} (ty : TypeId) (hm : MapOk d es clock f n) (h : Sat W w (iterA r b clock seen :: mapE b es clock :: L)) :
    ((leftOf es seen).size = 0 ∧ (Instr.next (.pointer (some ⟨r, 0, none⟩)) false ty).run P w = .ok (.tuple #[.bool false]) w) ∨
    ∃ e ∈ (leftOf es seen).toList, ∃ w', (Instr.next (.pointer (some ⟨r, 0, none⟩)) false ty).run P w = .ok (.tuple #[.bool true, e.key, e.val]) w' ∧
      Sat W w' (iterA r b clock (seen.push e.born) :: mapE b es clock :: L) := by
  obtain ⟨o, ho, rfl⟩ := h.head
  obtain ⟨o', ho', rfl⟩ := h.tail.head
  have hlt := h.lt m0
  rcases run_next_at (P := P) w ty r b clock clock seen es clock ho ho' hm.young (Nat.le_refl _) with h0 | ⟨e, he, w1, hw1, hr⟩
  · exact .inl h0
  · refine .inr ⟨e, he, _, hr, h.turn ?_ (fun k hk hne => ?_) ⟨_, ?_, rfl⟩⟩
    · rcases hw1 with rfl | rfl <;> exact ⟨rfl, rfl, rfl, by simp [ChangeMaps.setBlock]⟩
    · rw [heap_setBlock _ _ _ _ hne]
      rcases hw1 with rfl | rfl <;> rfl
    · have : r < w1.heap.size := by rcases hw1 with rfl | rfl <;> exact hlt
      simp [ChangeMaps.setBlock, this]

theorem entry_sl {P : Program} {es : Array MapEntry} {clock : Nat} {seen : Array Nat} {e : MapEntry} (hm : MapOk d es clock f n) (he : e ∈ (leftOf es seen).toList)
    (h : Sat W w (iterA r b clock (seen.push e.born) :: mapE b es clock :: L)) : (Instr.entry (.pointer (some ⟨r, 0, none⟩))).run P w = .ok (.tuple #[e.key, e.val]) w := by
  obtain ⟨o, ho, rfl⟩ := h.head
  obtain ⟨o', ho', rfl⟩ := h.tail.head
  exact run_entry_at w r b clock seen es clock e ho ho' (mem_left he).1 hm.stamps

theorem Sat.iterSeen {clock : Nat} {seen : Array Nat} (h : Sat W w (iterA r b clock seen :: L)) : w.iterSeen r = seen := by
  obtain ⟨o, ho, rfl⟩ := h.head
  simp [World.iterSeen, ho]
end
end Go.Sl

namespace Go.Sl
set_option linter.unusedSimpArgs false
set_option linter.unusedVariables false
open Go Go.RowKit

/-- What stands behind a list of operations: nothing, or two lists, one of which is taken. -/
inductive Pl where
  | nil
  | two (c1 : List Nat) (t1 : Pl) (c2 : List Nat) (t2 : Pl)

def Pl.fl : Pl → List Nat
  | .nil => []
  | .two c1 t1 _ _ => c1 ++ t1.fl

/-- Q, but at the end Z. -/
def atEnd (Q : Exit → Act → World → Prop) (Z : Act → World → Prop) : Exit → Act → World → Prop
  | .normal, a, w => Z a w
  | e, a, w => Q e a w

section
variable {P : Program} {ops : Array Oper} {Q Q1 Q2 : Exit → Act → World → Prop} {S : World → Prop} {E St Pu N : Nat → Bool} {X : World → World → Prop}

def qOf (P : Program) (X : World → World → Prop) (ops : Array Oper) (Q : Exit → Act → World → Prop) (S : World → Prop) (E St Pu N : Nat → Bool) : Pl → Exit → Act → World → Prop
  | .nil => Q
  | .two c1 t1 c2 t2 => atEnd Q fun a w => Can P X ops (qOf P X ops Q S E St Pu N t1) S E St Pu N c1 a w ∧ Can P X ops (qOf P X ops Q S E St Pu N t2) S E St Pu N c2 a w

/-- The two tell the same of all ends but the plain one. -/
def Agree (Q1 Q : Exit → Act → World → Prop) : Prop := ∀ e, e ≠ .normal → Q1 e = Q e

theorem agree_qOf : ∀ t : Pl, Agree (qOf P X ops Q S E St Pu N t) Q
  | .nil => fun _ _ => rfl
  | .two .. => fun e he => by
    cases e <;> first | exact absurd rfl he | rfl

theorem wpOp_agree (hA : Agree Q1 Q) {i : Nat} {K : Act → World → Prop} {a : Act} {w : World} (h : wpOp P ops Q1 i K a w) : wpOp P ops Q i K a w := by
  have hL : LetsOut Q1 → LetsOut Q := fun ⟨a, w, h⟩ => ⟨a, w, by rw [← hA .outgrown (by simp)]; exact h⟩
  unfold wpOp at *
  split
  · rename_i ho
    simpa [ho] using h
  · rename_i o ho
    simp only [ho] at h
    split
    · rename_i hw
      simp only [hw, if_true] at h
      rcases h with h | ⟨h1, h2⟩
      · refine .inl ?_
        unfold Oper.wp at *
        generalize (execOp a.eval o).run P w = r at *
        cases r with
        | ok n w' =>
          cases n <;> simp only [Oper.upon] at h ⊢ <;> first | exact h | skip
          case enter f args =>
            refine h.mono fun e w'' he => ?_
            cases e with
            | returned v => exact he
            | panicked c =>
              show Q (.panic c) a w''
              rw [← hA (.panic c) (by simp)]; exact he
            | outgrown => exact hL he
        | halt x w' =>
          cases x <;> simp only [Oper.upon] at h ⊢
          case panic u => rw [← hA (.panic _) (by simp)]; exact h
      · exact .inr ⟨h1, hL h2⟩
    · rename_i hw
      simpa [hw] using h

theorem can_append (hXr : ∀ w, X w w) (hA : Agree Q1 Q2) {r : List Nat} : ∀ (c : List Nat) (a : Act) (w : World),
    Can P X ops Q1 S E St Pu N c a w → (∀ a w, Q1 .normal a w → Can P X ops Q2 S E St Pu N r a w) → Can P X ops Q2 S E St Pu N (c ++ r) a w
  | [], a, w, h, hk => hk a w (h w (hXr w))
  | k :: c, a, w, h, hk => by
    simp only [List.cons_append, Can] at h ⊢
    cases ho : ops[k]? with
    | none => simp [ho] at h
    | some o =>
      simp only [ho] at h ⊢
      split
      · rename_i hE
        simp only [hE, if_true] at h
        exact fun w2 hx => wpOp_mono (fun a' w' ⟨g1, g2⟩ => ⟨g1, can_append hXr hA c a' w' g2 hk⟩) (wpOp_agree hA (h w2 hx))
      · rename_i hE
        simp only [hE] at h
        obtain ⟨v, hy, h⟩ := h
        exact ⟨v, hy, can_append hXr hA c _ w h hk⟩

theorem blk_ready' {listed : Array Bool} (hsz : listed.size = ops.size) (hcl : ∀ j k, listed.getD j false = true → dep ops j k = true → listed.getD k false = true) {k i : Nat} (hk : k < ops.size ∧ listed.getD k true = false) (hi : i ∈ Region.ready .any ops listed) (hb : (blkMask ops k).testBit i = true) : i = k := by
  obtain ⟨hk1, hk2⟩ := hk
  rw [getD_ft (by rw [hsz]; exact hk1) true false] at hk2
  have := blk_unlisted hsz hcl hk2 ops.toList (0, 0) (fun j => by simp) (fun i hi => by simp at hi) i hb
  rcases this.2 with h | ⟨j, h1, h2⟩
  · exact h
  · obtain ⟨o, ho, e, he, hbi, rfl⟩ := dep_iff.1 h1
    obtain ⟨_, o', ho', hall⟩ := mem_ready.1 hi
    rw [ho] at ho'
    cases ho'
    rw [hall e he hbi] at h2
    cases h2

theorem step_any (hsel : ∀ (j : Nat) (o : Oper) cs b, ops[j]? = some o → o.op ≠ .select cs b) (hQ : ∀ c a a' w, Q (.panic c) a w → Q (.panic c) a' w) (hXr : ∀ w, X w w) (hXt : ∀ a b c, X a b → X b c → X a c) (hSx : ∀ w w', S w → X w w' → S w')
    (hA : Agree Q1 Q) {r1 r2 fs : List Nat} {i : Nat} {listed : Array Bool} (hi : i ∈ Region.ready .any ops listed) (hsz : listed.size = ops.size) (hcl : ∀ j k, listed.getD j false = true → dep ops j k = true → listed.getD k false = true)
    (hun : ∀ k ∈ r1, k < ops.size ∧ listed.getD k true = false) (hpair2 : ∀ k ∈ r1, pairCore ops E St k i = true ∧ pairN ops E St Pu N k i = true) (hafter : ∀ k ∈ r2 ++ fs, pairN ops E St Pu N i k = true) (hfore : ∀ k ∈ r1, ∀ j ∈ fs, True)
    {a : Act} {w0 w : World} (h : Can P X ops Q1 S E St Pu N (r1 ++ i :: r2) a w0) (hx : X w0 w) (hS : (∃ k ∈ r1 ++ i :: r2 ++ fs, St k = true ∧ Pu k = false) → S w) {NEXT : Act → World → Prop}
    (next : ∀ a' w0' w', Can P X ops Q1 S E St Pu N (r1 ++ r2) a' w0' → X w0' w' → ((∃ k ∈ r1 ++ r2 ++ fs, St k = true ∧ Pu k = false) → S w') → NEXT a' w') : wpOp P ops Q i NEXT a w := by
  obtain ⟨_, oi, hoi, hall⟩ := mem_ready.1 hi
  have hS' : (∃ k ∈ r1 ++ r2 ++ fs, St k = true ∧ Pu k = false) → S w := fun ⟨k, hk, hs⟩ => hS ⟨k, by
    simp only [List.mem_append, List.mem_cons] at hk ⊢
    rcases hk with (hk | hk) | hk <;> simp [hk], hs⟩
  have hQ1 : ∀ c a a' w, Q1 (.panic c) a w → Q1 (.panic c) a' w := fun c a a' w => by
    rw [hA (.panic c) (by simp)]; exact hQ c a a' w
  have hpair : ∀ k ∈ r1, pairCore ops E St k i = true := fun k hk => (hpair2 k hk).1
  have hnd : ∀ k ∈ r1, dep ops i k = false := fun k hk => by
    cases hd : dep ops i k with
    | false => rfl
    | true =>
      obtain ⟨o, ho, e, he, hb, rfl⟩ := dep_iff.1 hd
      rw [hoi] at ho
      cases ho
      have h1 := hall e he hb
      obtain ⟨h2, h3⟩ := hun e.on hk
      rw [getD_ft (by rw [hsz]; exact h2) true false, h1] at h3
      cases h3
  have hne : ∀ k ∈ r1, i ≠ k := fun k hk e => by
    have := hpair k hk
    simp [pairCore, e] at this
  have hE : ∀ k ∈ r1, E k = false := fun k hk => by
    cases hEk : E k with
    | false => rfl
    | true =>
      have hp := hpair k hk
      simp only [pairCore, hEk, if_true, Bool.and_eq_true] at hp
      exact absurd (blk_ready' hsz hcl (hun k hk) hi hp.2) (hne k hk)
  have hap : ∀ k ∈ r1, ∀ ok, ops[k]? = some ok → ok.apart ops oi = true := fun k hk ok hok => by
    have hp := hpair k hk
    simp only [pairCore, hE k hk, Bool.false_eq_true, if_false, Bool.and_eq_true, hnd k hk, Bool.false_or, hok, hoi] at hp
    exact hp.2.1
  cases hEi : E i with
  | false =>
    obtain ⟨v, hy, h'⟩ := move_quiet hsel hoi hEi r1 a (fun k hk => ⟨hE k hk, hap k hk⟩) h
    unfold wpOp
    simp only [hoi]
    rcases hy with ⟨hw, hv⟩ | ⟨hw, rfl⟩
    · simp only [hw, if_true]
      refine .inl ?_
      have hq := hv w (by
        cases hsi : St i with
        | false => simpa using hx
        | true =>
          simp only [if_true]
          cases hpi : Pu i with
          | true => exact .inl rfl
          | false => exact .inr (hS ⟨i, by simp, hsi, hpi⟩))
      unfold quietE at hq
      unfold Oper.wp
      generalize (execOp a.eval oi).run P w = res at *
      cases res with
      | ok n w' =>
        cases n <;> simp only at hq <;> simp only [Oper.upon]
        case value u =>
          obtain ⟨q1, rfl⟩ := hq
          exact next _ w0 w' h' (hXt _ _ _ hx q1) (fun hs => hSx _ _ (hS' hs) q1)
        case skip =>
          obtain ⟨q1, rfl⟩ := hq
          exact next _ w0 w' h' (hXt _ _ _ hx q1) (fun hs => hSx _ _ (hS' hs) q1)
        case enter f args =>
          refine hq.mono fun e w'' ⟨he, q1⟩ => ?_
          subst he
          exact next _ w0 w'' h' (hXt _ _ _ hx q1) (fun hs => hSx _ _ (hS' hs) q1)
      | halt x w' => simp only at hq
    · simp only [hw, Bool.false_eq_true, if_false]
      exact next _ w0 w h' hx hS'
  | true =>
    have hSt : ∀ k ∈ r1, St k = true := fun k hk => by
      cases hk' : St k with
      | true => rfl
      | false =>
        have hp := hpair k hk
        simp only [pairCore, hE k hk, Bool.false_eq_true, if_false, Bool.and_eq_true, hk', hEi, Bool.not_true, Bool.false_or] at hp
        exact absurd (blk_ready' hsz hcl (hun k hk) hi hp.2.2) (hne k hk)
    have h' := wpOp_agree hA (move_act hsel hQ1 hoi hEi hx r1 a (fun k hk => ⟨hE k hk, hSt k hk, hap k hk⟩) h)
    refine wpOp_mono (fun a' w' ⟨g1, g2⟩ => next a' w' w' g2 (hXr w') (fun ⟨k, hk, hs⟩ => g1 ?_)) h'
    rw [List.append_assoc] at hk
    rcases List.mem_append.1 hk with hk | hk
    · have hp := (hpair2 k hk).2
      simp only [pairN, Bool.and_eq_true, hs.1, hs.2, hEi, Bool.not_false, Bool.and_self, Bool.not_true, Bool.false_or, Bool.or_eq_true] at hp
      rcases hp.2 with h1 | h1
      · exact h1
      · exact absurd (blk_ready' hsz hcl (hun k hk) hi h1) (hne k hk)
    · have hp := hafter k hk
      simp only [pairN, Bool.and_eq_true, hs.1, hs.2, hEi, Bool.not_false, Bool.and_self, Bool.not_true, Bool.false_or] at hp
      exact hp.1

/-- All pairs of a list. -/
def okPairs (f : Nat → Nat → Bool) : List Nat → Bool
  | [] => true
  | k :: c => c.all (f k) && okPairs f c
def pairB (ops : Array Oper) (E St Pu N : Nat → Bool) (k i : Nat) : Bool := pairCore ops E St k i && pairN ops E St Pu N k i
/-- The first of a branch, k1, and one that stands behind it, i; k2 the first of the other branch. -/
def headB (ops : Array Oper) (E St Pu N : Nat → Bool) (k1 k2 i : Nat) : Bool :=
  k1 != i && !(dep ops k1 i) && (i == k2 || (blkMask ops k1).testBit i || (blkMask ops k2).testBit i) && pairN ops E St Pu N k1 i
def okPl (ops : Array Oper) (E St Pu N : Nat → Bool) : Pl → Bool
  | .nil => true
  | .two (k1 :: d1) t1 (k2 :: d2) t2 =>
    k1 != k2 && (d1 ++ t1.fl).all (headB ops E St Pu N k1 k2) && (d2 ++ t2.fl).all (headB ops E St Pu N k2 k1) &&
    (d1 ++ t1.fl).all (fun i => i == k2 || (d2 ++ t2.fl).contains i) && (d2 ++ t2.fl).all (fun i => i == k1 || (d1 ++ t1.fl).contains i) && (d1 ++ t1.fl).contains k2 && (d2 ++ t2.fl).contains k1 &&
    decide ((d1 ++ t1.fl).length = (d2 ++ t2.fl).length) &&
    okPairs (pairB ops E St Pu N) d1 && d1.all (fun k => t1.fl.all (pairB ops E St Pu N k)) && okPairs (pairB ops E St Pu N) d2 && d2.all (fun k => t2.fl.all (pairB ops E St Pu N k)) &&
    okPl ops E St Pu N t1 && okPl ops E St Pu N t2
  | .two .. => false

structure GoodP (ops : Array Oper) (E St Pu N : Nat → Bool) (c : List Nat) (t : Pl) (listed : Array Bool) : Prop where
  size : listed.size = ops.size
  mem : ∀ i, i ∈ c ++ t.fl ↔ i < ops.size ∧ listed.getD i true = false
  pair : c.Pairwise fun k i => pairCore ops E St k i = true ∧ pairN ops E St Pu N k i = true
  pairT : ∀ k ∈ c, ∀ i ∈ t.fl, pairCore ops E St k i = true ∧ pairN ops E St Pu N k i = true
  okT : okPl ops E St Pu N t = true
  self : ∀ i, i < ops.size → selfOk ops i = true
  closed : ∀ j k, listed.getD j false = true → dep ops j k = true → listed.getD k false = true

theorem pairs_of (f : Nat → Nat → Bool) : ∀ c, okPairs f c = true → c.Pairwise fun k i => f k i = true
  | [], _ => .nil
  | k :: c, h => by
    simp only [okPairs, Bool.and_eq_true, List.all_eq_true] at h
    exact .cons h.1 (pairs_of f c h.2)

theorem closed_next {listed : Array Bool} (hcl : ∀ j k, listed.getD j false = true → dep ops j k = true → listed.getD k false = true) {i : Nat} (hi : i ∈ Region.ready .any ops listed) : ∀ j k, (listed.setIfInBounds i true).getD j false = true → dep ops j k = true → (listed.setIfInBounds i true).getD k false = true := fun j k hj hd => by
  by_cases hji : i = j
  · subst hji
    obtain ⟨o, ho, e, he, hb, rfl⟩ := dep_iff.1 hd
    obtain ⟨_, o', ho', hall⟩ := mem_ready.1 hi
    rw [ho] at ho'
    cases ho'
    exact getD_set_true (hall e he hb)
  · rw [getD_set_ne false hji] at hj
    exact getD_set_true (hcl j k hj hd)

/-- What is left behind an operation. -/
theorem mem_next {listed : Array Bool} (hsz : listed.size = ops.size) {F G : List Nat} (hF : ∀ j, j ∈ F ↔ j < ops.size ∧ listed.getD j true = false) {i : Nat} (hi : i ∈ F) (hG : ∀ j, j ∈ G ↔ j ∈ F ∧ j ≠ i) : ∀ j, j ∈ G ↔ j < ops.size ∧ (listed.setIfInBounds i true).getD j true = false := fun j => by
  have hlt := ((hF i).1 hi).1
  rw [hG j]
  by_cases hji : i = j
  · subst hji
    simp [hsz, hlt]
  · rw [getD_set_ne true hji, hF j]
    simp [Ne.symm hji]

theorem ready_of_head {listed : Array Bool} (hsz : listed.size = ops.size) {k : Nat} {F : List Nat} (hF : ∀ j, j ∈ k :: F ↔ j < ops.size ∧ listed.getD j true = false) (hs : selfOk ops k = true) (hd : ∀ j ∈ F, dep ops k j = false) : k ∈ Region.ready .any ops listed := by
  obtain ⟨h1, h2⟩ := (hF k).1 (by simp)
  rw [mem_ready]
  refine ⟨h2, ops[k], by simp [h1], fun e he hb => ?_⟩
  simp only [selfOk, h1, Array.getElem?_eq_getElem, Array.all_eq_true_iff_forall_mem] at hs
  have hs1 := hs e he
  simp only [hb, Bool.not_true, Bool.false_or, Bool.and_eq_true, bne_iff_ne, decide_eq_true_eq] at hs1
  cases hx : listed.getD e.on false with
  | true => rfl
  | false =>
    have hm : e.on ∈ k :: F := (hF e.on).2 ⟨hs1.2, by rw [getD_ft (by rw [hsz]; exact hs1.2) true false]; exact hx⟩
    rcases List.mem_cons.1 hm with hm | hm
    · exact absurd hm hs1.1
    · have hdd : dep ops k e.on = true := dep_iff.2 ⟨ops[k], by simp [h1], e, he, hb, rfl⟩
      rw [hd _ hm] at hdd
      cases hdd

theorem plan_any (hsel : ∀ (j : Nat) (o : Oper) cs b, ops[j]? = some o → o.op ≠ .select cs b) (hQ : ∀ c a a' w, Q (.panic c) a w → Q (.panic c) a' w) (hXr : ∀ w, X w w) (hXt : ∀ a b c, X a b → X b c → X a c) (hSx : ∀ w w', S w → X w w' → S w') :
    ∀ (fuel : Nat) (c : List Nat) (t : Pl) (listed : Array Bool) (a : Act) (w0 w : World), (c ++ t.fl).length ≤ fuel → GoodP ops E St Pu N c t listed → Can P X ops (qOf P X ops Q S E St Pu N t) S E St Pu N c a w0 → X w0 w → ((∃ k ∈ c ++ t.fl, St k = true ∧ Pu k = false) → S w) → wpAny P .any ops Q fuel listed a w := by
  intro fuel
  induction fuel with
  | zero =>
    intro c t listed a w0 w hl g h hx hS
    have hnil : c ++ t.fl = [] := List.eq_nil_of_length_eq_zero (by omega)
    obtain ⟨rfl, ht⟩ := List.append_eq_nil_iff.1 hnil
    have ht2 : t = .nil := by
      cases t with
      | nil => rfl
      | two c1 t1 c2 t2 =>
        have := g.okT
        cases c1 with
        | nil => simp [okPl] at this
        | cons k1 d1 => simp [Pl.fl] at ht
    subst ht2
    refine ⟨?_, h w hx⟩
    rw [List.eq_nil_iff_forall_not_mem]
    intro i hi
    obtain ⟨h1, o, ho, _⟩ := mem_ready.1 hi
    have := (g.mem i).2 ⟨(Array.getElem?_eq_some_iff.1 ho).1, h1⟩
    simp [Pl.fl] at this
  | succ fuel ih =>
    intro c t listed a w0 w hl g h hx hS
    have hready : ∀ i ∈ Region.ready .any ops listed, i ∈ c ++ t.fl := fun i hi => by
      obtain ⟨h1, o, ho, _⟩ := mem_ready.1 hi
      exact (g.mem i).2 ⟨(Array.getElem?_eq_some_iff.1 ho).1, h1⟩
    have inC : ∀ i ∈ Region.ready .any ops listed, i ∈ c → wpOp P ops Q i (wpAny P .any ops Q fuel (listed.setIfInBounds i true)) a w := fun i hi hic => by
      obtain ⟨r1, r2, rfl⟩ := List.append_of_mem hic
      have hpw := g.pair
      rw [List.pairwise_append] at hpw
      obtain ⟨p1, p2, p3⟩ := hpw
      obtain ⟨p4, p5⟩ := List.pairwise_cons.1 p2
      have hcore : ∀ x y, pairCore ops E St x y = true → x ≠ y := fun x y hxy e => by
        subst e
        simp [pairCore] at hxy
      refine step_any (fs := t.fl) hsel hQ hXr hXt hSx (agree_qOf t) hi g.size g.closed (fun k hk => (g.mem k).1 (by simp [hk])) (fun k hk => p3 k hk i (by simp)) (fun k hk => ?_) (fun _ _ _ _ => trivial) h hx hS ?_
      · rcases List.mem_append.1 hk with hk | hk
        · exact (p4 k hk).2
        · exact (g.pairT i (by simp) k hk).2
      · intro a' w0' w' h' hx' hS'
        refine ih (r1 ++ r2) t _ a' w0' w' (by simp at hl ⊢; omega) ⟨by simp [g.size], mem_next g.size g.mem (by simp) (fun j => ?_), g.pair.sublist (List.Sublist.append_left (List.sublist_cons_self i r2) r1), fun k hk => g.pairT k (by simp only [List.mem_append, List.mem_cons] at hk ⊢; rcases hk with hk | hk <;> simp [hk]), g.okT, g.self, closed_next g.closed hi⟩ h' hx' hS'
        simp only [List.mem_append, List.mem_cons]
        constructor
        · rintro ((h1 | h1) | h1)
          · exact ⟨by simp [h1], fun e => hcore _ _ (p3 j h1 i (by simp)).1 e⟩
          · exact ⟨by simp [h1], fun e => hcore _ _ (p4 j h1).1 e.symm⟩
          · exact ⟨by simp [h1], fun e => hcore _ _ (g.pairT i (by simp) j h1).1 e.symm⟩
        · rintro ⟨(h1 | rfl | h1) | h1, h2⟩
          · exact .inl (.inl h1)
          · exact absurd rfl h2
          · exact .inl (.inr h1)
          · exact .inr h1
    have coreDep : ∀ x y, pairCore ops E St x y = true → dep ops x y = false := fun x y hxy => by
      simp only [pairCore, Bool.and_eq_true, Bool.not_eq_true'] at hxy
      exact hxy.1.1
    cases t with
    | nil =>
      refine ⟨fun h0 => ?_, fun i hi => inC i hi (by simpa [Pl.fl] using hready i hi)⟩
      cases c with
      | nil => exact h w hx
      | cons k c =>
        have hm := g.mem
        simp only [Pl.fl, List.append_nil] at hm
        have := ready_of_head g.size hm (g.self k ((hm k).1 (by simp)).1) (fun j hj => coreDep _ _ ((List.pairwise_cons.1 g.pair).1 j hj).1)
        rw [h0] at this
        simp at this
    | two c1 t1 c2 t2 =>
      have hok := g.okT
      cases c1 with
      | nil => simp [okPl] at hok
      | cons k1 d1 =>
      cases c2 with
      | nil => simp [okPl] at hok
      | cons k2 d2 =>
      simp only [okPl, Bool.and_eq_true, List.all_eq_true, decide_eq_true_eq, bne_iff_ne] at hok
      obtain ⟨⟨⟨⟨⟨⟨⟨⟨⟨⟨⟨⟨⟨o1, o2⟩, o3⟩, o4⟩, o5⟩, o6⟩, o7⟩, o8⟩, o9⟩, o10⟩, o11⟩, o12⟩, o13⟩, o14⟩ := hok
      have hfl : (Pl.two (k1 :: d1) t1 (k2 :: d2) t2).fl = k1 :: (d1 ++ t1.fl) := rfl
      have s2 : ∀ j, j ∈ d2 ++ t2.fl → j ∈ k1 :: (d1 ++ t1.fl) := fun j hj => by
        have := o5 j hj
        rw [Bool.or_eq_true, beq_iff_eq, List.contains_iff_mem] at this
        rcases this with rfl | h
        · simp
        · exact List.mem_cons_of_mem _ h
      have hk2m : k2 ∈ d1 ++ t1.fl := by rw [← List.contains_iff_mem]; exact o6
      have hk1m : k1 ∈ d2 ++ t2.fl := by rw [← List.contains_iff_mem]; exact o7
      have nk1 : ∀ j ∈ d1 ++ t1.fl, k1 ≠ j := fun j hj => by
        have := o2 j hj
        simp only [headB, Bool.and_eq_true, bne_iff_ne] at this
        exact this.1.1.1
      have nk2 : ∀ j ∈ d2 ++ t2.fl, k2 ≠ j := fun j hj => by
        have := o3 j hj
        simp only [headB, Bool.and_eq_true, bne_iff_ne] at this
        exact this.1.1.1
      have s1 : ∀ j, j ∈ d1 ++ t1.fl → j ≠ k2 → j ∈ d2 ++ t2.fl := fun j hj hne => by
        have := o4 j hj
        rw [Bool.or_eq_true, beq_iff_eq, List.contains_iff_mem] at this
        exact this.resolve_left hne
      have hcore : ∀ x y, pairCore ops E St x y = true → x ≠ y := fun x y hxy e => by
        subst e
        simp [pairCore] at hxy
      have PB : ∀ {k i : Nat}, pairB ops E St Pu N k i = true → pairCore ops E St k i = true ∧ pairN ops E St Pu N k i = true := fun h => by
        simpa only [pairB, Bool.and_eq_true] using h
      have hmem := g.mem
      rw [hfl] at hmem
      have hpT := g.pairT
      rw [hfl] at hpT
      rw [hfl] at hl hS
      have branch : ∀ (k k' : Nat) (d : List Nat) (tt : Pl), k ∈ k1 :: (d1 ++ t1.fl) → (∀ j, j ∈ d ++ tt.fl ↔ j ∈ k1 :: (d1 ++ t1.fl) ∧ j ≠ k) → (d ++ tt.fl).length = (d1 ++ t1.fl).length → (∀ j ∈ d ++ tt.fl, pairN ops E St Pu N k j = true) → okPairs (pairB ops E St Pu N) d = true → (∀ x ∈ d, ∀ y ∈ tt.fl, pairB ops E St Pu N x y = true) → okPl ops E St Pu N tt = true →
          (∀ a w, (qOf P X ops Q S E St Pu N (.two (k1 :: d1) t1 (k2 :: d2) t2)) .normal a w → Can P X ops (qOf P X ops Q S E St Pu N tt) S E St Pu N (k :: d) a w) → k ∈ Region.ready .any ops listed → wpOp P ops Q k (wpAny P .any ops Q fuel (listed.setIfInBounds k true)) a w := by
        intro k k' d tt hkm hset hlen hN hpd hpdt hot hq hki
        have hc := can_append (r := k :: d) hXr (fun e he => ((agree_qOf _) e he).trans ((agree_qOf (P := P) (X := X) (ops := ops) (Q := Q) (S := S) (E := E) (St := St) (Pu := Pu) (N := N) tt) e he).symm) c a w0 h hq
        have hsub : ∀ j, j ∈ d ++ tt.fl → j ∈ k1 :: (d1 ++ t1.fl) := fun j hj => ((hset j).1 hj).1
        refine step_any (fs := tt.fl) hsel hQ hXr hXt hSx (agree_qOf tt) hki g.size g.closed (fun x hx => (hmem x).1 (by simp [hx])) (fun x hx => hpT x hx k hkm) hN (fun _ _ _ _ => trivial) hc hx (fun ⟨x, hx1, hx2⟩ => hS ⟨x, ?_, hx2⟩) ?_
        · simp only [List.append_assoc, List.cons_append] at hx1
          rcases List.mem_append.1 hx1 with h1 | h1
          · exact List.mem_append_left _ h1
          · refine List.mem_append_right _ ?_
            rcases List.mem_cons.1 h1 with rfl | h1
            · exact hkm
            · exact hsub x h1
        · intro a' w0' w' h' hx' hS'
          refine ih (c ++ d) tt _ a' w0' w' ?_ ⟨by simp [g.size], mem_next g.size hmem (List.mem_append_right _ hkm) (fun j => ?_), ?_, ?_, hot, g.self, closed_next g.closed hki⟩ h' hx' hS'
          · simp only [List.append_assoc, List.length_append, List.length_cons] at hl hlen ⊢
            omega
          · rw [List.append_assoc, List.mem_append, hset j, List.mem_append]
            constructor
            · rintro (h1 | ⟨h1, h2⟩)
              · exact ⟨.inl h1, hcore _ _ (hpT j h1 k hkm).1⟩
              · exact ⟨.inr h1, h2⟩
            · rintro ⟨h1 | h1, h2⟩
              · exact .inl h1
              · exact .inr ⟨h1, h2⟩
          · rw [List.pairwise_append]
            exact ⟨g.pair, (pairs_of _ d hpd).imp PB, fun x hx1 y hy1 => hpT x hx1 y (hsub y (List.mem_append_left _ hy1))⟩
          · intro x hx1 y hy1
            rcases List.mem_append.1 hx1 with h1 | h1
            · exact hpT x h1 y (hsub y (List.mem_append_right _ hy1))
            · exact PB (hpdt x h1 y hy1)
      refine ⟨fun h0 => ?_, fun i hi => ?_⟩
      · exfalso
        cases c with
        | nil =>
          have := ready_of_head (F := d1 ++ t1.fl) g.size hmem (g.self k1 ((hmem k1).1 (by simp)).1) (fun j hj => by
            have := o2 j hj
            simp only [headB, Bool.and_eq_true, Bool.not_eq_true'] at this
            exact this.1.1.2)
          rw [h0] at this
          simp at this
        | cons k c =>
          have := ready_of_head (F := c ++ (k1 :: (d1 ++ t1.fl))) g.size hmem (g.self k ((hmem k).1 (by simp)).1) (fun j hj => by
            rcases List.mem_append.1 hj with h1 | h1
            · exact coreDep _ _ ((List.pairwise_cons.1 g.pair).1 j h1).1
            · exact coreDep _ _ (hpT k (by simp) j h1).1)
          rw [h0] at this
          simp at this
      · have hm := hready i hi
        rw [hfl] at hm
        rcases List.mem_append.1 hm with hm | hm
        · exact inC i hi hm
        · have left : i = k1 → wpOp P ops Q i (wpAny P .any ops Q fuel (listed.setIfInBounds i true)) a w := fun e => by
            subst e
            exact branch i k2 d1 t1 (by simp) (fun j => ⟨fun hj => ⟨List.mem_cons_of_mem _ hj, (nk1 j hj).symm⟩, fun ⟨hj, hn⟩ => (List.mem_cons.1 hj).resolve_left hn⟩) rfl (fun j hj => by
              have := o2 j hj
              simp only [headB, Bool.and_eq_true] at this
              exact this.2) o9 o10 o13 (fun a w h => h.1) hi
          have right : i = k2 → wpOp P ops Q i (wpAny P .any ops Q fuel (listed.setIfInBounds i true)) a w := fun e => by
            subst e
            exact branch i k1 d2 t2 (List.mem_cons_of_mem _ hk2m) (fun j => ⟨fun hj => ⟨s2 j hj, (nk2 j hj).symm⟩, fun ⟨hj, hn⟩ => by
              rcases List.mem_cons.1 hj with rfl | hj
              · exact hk1m
              · exact s1 j hj hn⟩) o8.symm (fun j hj => by
              have := o3 j hj
              simp only [headB, Bool.and_eq_true] at this
              exact this.2) o11 o12 o14 (fun a w h => h.2) hi
          rcases List.mem_cons.1 hm with e | hm
          · exact left e
          · have := o2 i hm
            simp only [headB, Bool.and_eq_true, Bool.or_eq_true, beq_iff_eq] at this
            rcases this.1.2 with (e | hb) | hb
            · exact right e
            · exact left (blk_ready' g.size g.closed ((hmem k1).1 (by simp)) hi hb)
            · exact right (blk_ready' g.size g.closed ((hmem k2).1 (List.mem_append_right _ (List.mem_cons_of_mem _ hk2m))) hi hb)

def planOk (ops : Array Oper) (E St Pu N c : List Nat) (t : Pl) : Bool :=
  Region.noSelect ops && decide ((c ++ t.fl).length = ops.size) && (List.range ops.size).all ((c ++ t.fl).contains ·) && (c ++ t.fl).all (fun i => decide (i < ops.size)) && (List.range ops.size).all (fun i => selfOk ops i) &&
  okPairs (pairB ops (E.contains ·) (St.contains ·) (Pu.contains ·) (N.contains ·)) c && c.all (fun k => t.fl.all (pairB ops (E.contains ·) (St.contains ·) (Pu.contains ·) (N.contains ·) k)) && okPl ops (E.contains ·) (St.contains ·) (Pu.contains ·) (N.contains ·) t

theorem wp_region_plan {id : Nat} {a : Act} {w : World} (E St Pu N c : List Nat) (t : Pl) (S : World → Prop) (hm : P.follows .mixedOrders = true) (hc : planOk ops E St Pu N c t = true)
    (hS : S w.drew) (h : Can P One ops (qOf P One ops (Calm Q) S (E.contains ·) (St.contains ·) (Pu.contains ·) (N.contains ·) t) S (E.contains ·) (St.contains ·) (Pu.contains ·) (N.contains ·) c a w.drew) : (Code.region id ops true).wp P Q a w := by
  simp only [planOk, Bool.and_eq_true, decide_eq_true_eq, List.all_eq_true, List.mem_range] at hc
  obtain ⟨⟨⟨⟨⟨⟨⟨c1, c2⟩, c3⟩, c4⟩, c5⟩, c6⟩, c7⟩, c8⟩ := hc
  refine Code.wp_mono calm_imp (wp_region_any hm (plan_any (E := (E.contains ·)) (St := (St.contains ·)) (Pu := (Pu.contains ·)) (N := (N.contains ·)) (S := S) (X := One) (Region.noSelect_spec c1) (fun _ _ _ _ h => h) (fun _ => rfl) (fun _ _ _ h k => k.trans h) (fun _ _ h k => by rw [show _ = _ from k]; exact h) ops.size c t _ a w.drew w.drew (Nat.le_of_eq c2) ?_ h rfl (fun _ => hS)))
  refine ⟨by simp, fun i => ?_, (pairs_of _ c c6).imp (fun h => by simpa only [pairB, Bool.and_eq_true] using h), fun k hk i hi => by simpa only [pairB, Bool.and_eq_true] using c7 k hk i hi, c8, c5, fun j k hj => ?_⟩
  · constructor
    · intro hi
      exact ⟨c4 i hi, by simp [c4 i hi]⟩
    · rintro ⟨hi, _⟩
      have := c3 i hi
      rwa [List.contains_iff_mem] at this
  · by_cases hlt : j < ops.size
    · simp [hlt] at hj
    · simp [hlt] at hj

theorem can_two {l : List Oper} {c1 c2 : List Nat} {t1 t2 : Pl} {a : Act} {w : World} (h1 : Can P One l.toArray (qOf P One l.toArray Q S E St Pu N t1) S E St Pu N c1 a w) (h2 : Can P One l.toArray (qOf P One l.toArray Q S E St Pu N t2) S E St Pu N c2 a w) :
    Can P One l.toArray (qOf P One l.toArray Q S E St Pu N (.two c1 t1 c2 t2)) S E St Pu N [] a w := fun w2 hx => by
  have : w2 = w := hx
  subst this
  exact ⟨h1, h2⟩
end
end Go.Sl
