/-
  Ownership of blocks, program-independent: 'Sat W0 w L': in world w each block that the list L names holds what L says, no block is named twice, and the streams are those of W0.
-/
import Derived.WalkKit
import Derived.Deep.Draws
namespace Go.Sl
set_option linter.unusedVariables false
set_option linter.unusedSimpArgs false
open Go Go.RowKit

/-- A block and what is known of the object in it. -/
abbrev Atom := Nat × (Obj → Prop)

/-- Block b is a row of cells, all known. -/
def cellsA (b : Nat) (cs : Array Value) (T : TypeId) : Atom := (b, fun o => o = .cells cs T (0, 0))

structure Inert (W w : World) : Prop where
  os : w.os = W.os
  tape : w.tape = W.tape
  output : w.output = W.output
  size : W.heap.size ≤ w.heap.size

theorem Inert.refl (w : World) : Inert w w := ⟨rfl, rfl, rfl, Nat.le_refl _⟩
theorem Inert.trans {a b c : World} (h : Inert a b) (k : Inert b c) : Inert a c :=
  ⟨k.os.trans h.os, k.tape.trans h.tape, k.output.trans h.output, Nat.le_trans h.size k.size⟩

structure Sat (W w : World) (L : List Atom) : Prop where
  inert : Inert W w
  nodup : (L.map Prod.fst).Nodup
  has : ∀ x ∈ L, ∃ o, w.heap[x.1]? = some o ∧ x.2 o

noncomputable def cnt (x : Atom) (L : List Atom) : Nat := by classical exact L.count x
theorem cnt_nil (x : Atom) : cnt x [] = 0 := by simp [cnt]
theorem cnt_append (x : Atom) (L M : List Atom) : cnt x (L ++ M) = cnt x L + cnt x M := by simp [cnt]
noncomputable def cnt1 (x y : Atom) : Nat := cnt x [y]
theorem cnt_cons (x y : Atom) (L : List Atom) : cnt x (y :: L) = cnt1 x y + cnt x L := by
  rw [cnt1, ← cnt_append]; rfl
theorem cnt_pos {x : Atom} {L : List Atom} : 0 < cnt x L ↔ x ∈ L := by classical simp [cnt, List.count_pos_iff]
theorem perm_of_cnt : ∀ {M L : List Atom}, (∀ x, cnt x M ≤ cnt x L) → ∃ K, (M ++ K).Perm L
  | [], L, _ => ⟨L, .refl _⟩
  | y :: M, L, h => by
    classical
    have hy : y ∈ L := by
      rw [← cnt_pos]
      have h1 := h y
      have h2 : 0 < cnt y (y :: M) := cnt_pos.2 (by simp)
      omega
    have hp := List.perm_cons_erase hy
    obtain ⟨K, hK⟩ := perm_of_cnt (M := M) (L := L.erase y) (by
      intro x
      have h1 := h x
      have h2 : cnt x L = cnt x (y :: L.erase y) := by simp only [cnt]; exact hp.count_eq x
      rw [cnt_cons] at h1
      rw [cnt_cons x y (L.erase y)] at h2
      omega)
    exact ⟨K, (hK.cons y).trans hp.symm⟩

theorem m0 {x : Atom} {L : List Atom} : x ∈ x :: L := .head _
theorem m1 {x a : Atom} {L : List Atom} : x ∈ a :: x :: L := .tail _ m0
theorem m2 {x a b : Atom} {L : List Atom} : x ∈ a :: b :: x :: L := .tail _ m1
theorem m3 {x a b c : Atom} {L : List Atom} : x ∈ a :: b :: c :: x :: L := .tail _ m2
theorem m4 {x a b c d : Atom} {L : List Atom} : x ∈ a :: b :: c :: d :: x :: L := .tail _ m3
theorem m5 {x a b c d e : Atom} {L : List Atom} : x ∈ a :: b :: c :: d :: e :: x :: L := .tail _ m4

section
variable {W w w' : World} {L M : List Atom} {b : Nat} {p : Obj → Prop}

/-- Leave atoms out, put them in another order. -/
theorem Sat.use (h : Sat W w L) (hc : ∀ x, cnt x M ≤ cnt x L) : Sat W w M := by
  obtain ⟨K, hK⟩ := perm_of_cnt hc
  refine ⟨h.inert, ?_, fun x hx => h.has x (hK.subset (List.mem_append_left _ hx))⟩
  have h1 := (hK.map Prod.fst).nodup_iff.2 h.nodup
  rw [List.map_append, List.nodup_append] at h1
  exact h1.1

theorem Sat.get (h : Sat W w L) {b : Nat} {p : Obj → Prop} (hm : (b, p) ∈ L) : ∃ o, w.heap[b]? = some o ∧ p o := h.has _ hm
theorem Sat.lt (h : Sat W w L) {b : Nat} {p : Obj → Prop} (hm : (b, p) ∈ L) : b < w.heap.size := by
  obtain ⟨o, ho, _⟩ := h.has _ hm
  exact (Array.getElem?_eq_some_iff.1 ho).1

theorem Sat.head (h : Sat W w ((b, p) :: L)) : ∃ o, w.heap[b]? = some o ∧ p o := h.get (List.mem_cons_self ..)
theorem Sat.tail {x : Atom} (h : Sat W w (x :: L)) : Sat W w L := h.use fun y => by rw [cnt_cons]; omega
theorem Sat.left (h : Sat W w (L ++ M)) : Sat W w L := h.use fun y => by rw [cnt_append]; omega
theorem Sat.right (h : Sat W w (L ++ M)) : Sat W w M := h.use fun y => by rw [cnt_append]; omega

/-- A row of cells, its cells. -/
theorem Sat.row {cs : Array Value} {T : TypeId} (h : Sat W w L) (hm : cellsA b cs T ∈ L) : w.heap[b]? = some (.cells cs T (0, 0)) := by
  obtain ⟨o, ho, rfl⟩ := h.get hm
  exact ho
theorem cell_at {cs : Array Value} {T : TypeId} {fr : Nat × Nat} (h : w.heap[b]? = some (.cells cs T fr)) (i : Nat) : w.cell? ⟨b, i, none⟩ = cs[i]? := cell_of_row w b i cs T fr h
theorem free_at {cs : Array Value} {T : TypeId} (h : w.heap[b]? = some (.cells cs T (0, 0))) (i : Nat) : w.frozen? ⟨b, i, none⟩ = false := by
  simp [World.frozen?, h]
theorem Sat.cell {cs : Array Value} {T : TypeId} (h : Sat W w L) (hm : cellsA b cs T ∈ L) (i : Nat) : w.cell? ⟨b, i, none⟩ = cs[i]? := cell_at (h.row hm) i
theorem Sat.free {cs : Array Value} {T : TypeId} (h : Sat W w L) (hm : cellsA b cs T ∈ L) (i : Nat) : w.frozen? ⟨b, i, none⟩ = false := free_at (h.row hm) i

/-- Another world in which all blocks of L are as they were. -/
theorem Sat.same (h : Sat W w L) (hi : Inert w w') (hb : ∀ b, b < w.heap.size → (∃ p, (b, p) ∈ L) → w'.heap[b]? = w.heap[b]?) : Sat W w' L :=
  ⟨h.inert.trans hi, h.nodup, fun x hx => by
    obtain ⟨o, ho, hp⟩ := h.has x hx
    exact ⟨o, (hb x.1 (h.lt (p := x.2) hx) ⟨x.2, hx⟩).trans ho, hp⟩⟩

theorem Inert.alloc (w : World) (o : Obj) : Inert w (w.alloc o) := ⟨rfl, rfl, rfl, by simp⟩
theorem Inert.drew (w : World) : Inert w w.drew := ⟨rfl, rfl, rfl, Nat.le_refl _⟩
theorem Inert.setCell (w : World) (a : Addr) (v : Value) : Inert w (w.setCell a v) := ⟨rfl, rfl, rfl, by simp⟩
theorem Inert.grown {row : Option Nat} (h : w.grownBy w' row) : Inert w w' := ⟨h.os, h.tape, h.output, h.size⟩
theorem Inert.below {B : Nat} (h : Below B w w') : Inert w w' := ⟨h.os, h.tape, h.output, h.size⟩

theorem Sat.drew (h : Sat W w L) : Sat W w.drew L := h.same (Inert.drew w) fun _ _ _ => rfl
theorem Sat.drewN (h : Sat W w L) (n : Nat) : Sat W (w.drewN n) L := h.same ⟨rfl, rfl, rfl, Nat.le_refl _⟩ fun _ _ _ => rfl
theorem Sat.alloc (h : Sat W w L) (o : Obj) : Sat W (w.alloc o) L := h.same (Inert.alloc w o) fun b hb _ => Below.heap_alloc w o b hb
theorem Sat.below (h : Sat W w L) (hb : Below w.heap.size w w') : Sat W w' L := h.same (Inert.below hb) fun b hl _ => hb.block b hl

/-- A new block is owned. -/
theorem Sat.new (h : Sat W w L) (o : Obj) {p : Obj → Prop} (hp : p o) : Sat W (w.alloc o) ((w.heap.size, p) :: L) := by
  refine ⟨h.inert.trans (Inert.alloc w o), ?_, fun x hx => ?_⟩
  · rw [List.map_cons, List.nodup_cons]
    refine ⟨fun hm => ?_, h.nodup⟩
    obtain ⟨x, hx, he⟩ := List.mem_map.1 hm
    have := h.lt (p := x.2) hx
    simp only at he
    omega
  · rcases List.mem_cons.1 hx with rfl | hx
    · exact ⟨o, heap_alloc_new w o, hp⟩
    · exact (h.alloc o).has x hx

theorem Sat.newCells (h : Sat W w L) (cs : Array Value) (T : TypeId) : Sat W (w.alloc (.cells cs T)) (cellsA w.heap.size cs T :: L) := h.new _ rfl

/-- One block is turned, all others are as they were. -/
theorem Sat.turn (h : Sat W w ((b, p) :: L)) {p' : Obj → Prop} (hi : Inert w w') (ho : ∀ k, k < w.heap.size → k ≠ b → w'.heap[k]? = w.heap[k]?) (hp : ∃ o, w'.heap[b]? = some o ∧ p' o) : Sat W w' ((b, p') :: L) := by
  have hn := h.nodup
  rw [List.map_cons, List.nodup_cons] at hn
  refine ⟨h.inert.trans hi, ?_, fun x hx => ?_⟩
  · rw [List.map_cons, List.nodup_cons]; exact hn
  · rcases List.mem_cons.1 hx with rfl | hx
    · exact hp
    · obtain ⟨o, hxo, hpo⟩ := h.has x (List.mem_cons_of_mem _ hx)
      refine ⟨o, ?_, hpo⟩
      rw [ho x.1 (h.lt (p := x.2) (List.mem_cons_of_mem _ hx)) (fun e => hn.1 (e ▸ List.mem_map.2 ⟨x, hx, rfl⟩))]
      exact hxo

/-- A new block takes the place of one that is given up (an append that grew). -/
theorem Sat.moved (h : Sat W w L) {g : Nat} {p' : Obj → Prop} (hi : Inert w w') (hg : w.heap.size ≤ g) (ho : ∀ k, k < w.heap.size → (∃ p, (k, p) ∈ L) → w'.heap[k]? = w.heap[k]?) (hp : ∃ o, w'.heap[g]? = some o ∧ p' o) : Sat W w' ((g, p') :: L) := by
  have h' := h.same hi ho
  refine ⟨h'.inert, ?_, fun x hx => ?_⟩
  · rw [List.map_cons, List.nodup_cons]
    refine ⟨fun hm => ?_, h.nodup⟩
    obtain ⟨x, hx, he⟩ := List.mem_map.1 hm
    have := h.lt (p := x.2) hx
    simp only at he
    omega
  · rcases List.mem_cons.1 hx with rfl | hx
    · exact hp
    · exact h'.has x hx

theorem Sat.setCell {cs : Array Value} {T : TypeId} (h : Sat W w (cellsA b cs T :: L)) (i : Nat) (v : Value) : Sat W (w.setCell ⟨b, i, none⟩ v) (cellsA b (cs.setIfInBounds i v) T :: L) := by
  refine h.turn (Inert.setCell w _ v) (fun k _ hk => Below.heap_setCell w _ v k hk) ⟨_, ?_, rfl⟩
  have hr := h.row (List.mem_cons_self ..)
  simp only [World.setCell, Array.getElem?_modify, if_true, hr, Option.map_some]
  rfl

/-- Two owned blocks are two. -/
theorem Sat.ne {b c : Nat} {p q : Obj → Prop} (h : Sat W w ((b, p) :: (c, q) :: L)) : b ≠ c := by
  have hn := h.nodup
  simp only [List.map_cons, List.nodup_cons, List.mem_cons, not_or] at hn
  exact hn.1.1

/-- All blocks of a world, as they are. -/
def allOf (W : World) : List Atom := (List.range W.heap.size).map fun b => (b, fun o => W.heap[b]? = some o)
theorem allOf_sat (W : World) : Sat W W (allOf W) := by
  refine ⟨Inert.refl W, ?_, fun x hx => ?_⟩
  · unfold allOf
    rw [List.map_map]
    have : (Prod.fst ∘ fun b => ((b, fun o => W.heap[b]? = some o) : Atom)) = id := rfl
    rw [this, List.map_id]
    exact List.nodup_range
  · unfold allOf at hx
    obtain ⟨b, hb, rfl⟩ := List.mem_map.1 hx
    have := List.mem_range.1 hb
    exact ⟨W.heap[b], by simp [this], by simp [this]⟩
theorem Sat.below_all (h : Sat W w (L ++ allOf W)) : Below W.heap.size W w :=
  ⟨h.inert.os, h.inert.tape, h.inert.output, h.inert.size, fun k hk => by
    have hm : ((k, fun o => W.heap[k]? = some o) : Atom) ∈ L ++ allOf W :=
      List.mem_append_right _ (List.mem_map.2 ⟨k, List.mem_range.2 hk, rfl⟩)
    obtain ⟨o, ho, hp⟩ := h.get hm
    rw [ho, hp]⟩
end

/-- The worlds in which L is owned. -/
structure Of (W : World) (L : List Atom) : Type where
  v : World
  s : Sat W v L
@[reducible] def Held (W : World) (L : List Atom) (w' : World) : Prop := ∃ y : Of W L, w' = y.v
theorem Held.mk {W w : World} {L : List Atom} (h : Sat W w L) : Held W L w := ⟨⟨w, h⟩, rfl⟩

/-- Of the world at hand P alone is kept. -/
theorem with_world {K : Act → World → Prop} {a : Act} {w : World} (P : World → Prop) (h : P w) (hk : ∀ w', P w' → K a w') : K a w := hk w h

theorem with_sat {K : Act → World → Prop} {a : Act} {W w : World} {L : List Atom} (h : Sat W w L) (hk : ∀ w', Sat W w' L → K a w') : K a w := hk w h

/-! ### rows -/
/-- What a row's block holds: from cell off on, places for len cells, of which the first are xs. -/
def rowP (e : TypeId) (off len : Nat) (xs : List Value) (o : Obj) : Prop :=
  ∃ cur, o = .cells cur e (0, 0) ∧ off + len ≤ cur.size ∧ xs.length ≤ len ∧ (cur.toList.drop off).take xs.length = xs

/-- The slice value v of n elements (size cells each) has the cells xs, in a block of its own (or it is nil). -/
def RowA (e : TypeId) (size : Nat) (v : Value) (n : Nat) (xs : List Value) (A : List Atom) : Prop :=
  xs.length = n * size ∧ ((v = .slice none 0 0 ∧ n = 0 ∧ A = []) ∨
    ∃ g off cap, v = .slice (some ⟨g, off, none⟩) n cap ∧ n ≤ cap ∧ cap ≤ maxLen ∧ A = [(g, rowP e off (cap * size) xs)])

theorem RowA.nil (e : TypeId) (size : Nat) : RowA e size (.slice none 0 0) 0 [] [] := ⟨by simp, .inl ⟨rfl, rfl, rfl⟩⟩

theorem rowP.cell {e : TypeId} {off len : Nat} {xs : List Value} {g : Nat} {w : World} {o : Obj} (ho : w.heap[g]? = some o) (h : rowP e off len xs o) (j : Nat) (hj : j < xs.length) :
    w.cell? ⟨g, off + j, none⟩ = xs[j]? ∧ w.frozen? ⟨g, off + j, none⟩ = false := by
  obtain ⟨cur, rfl, h1, h2, h3⟩ := h
  refine ⟨?_, free_at ho _⟩
  rw [cell_at ho]
  have : ((cur.toList.drop off).take xs.length)[j]? = xs[j]? := by rw [h3]
  rw [List.getElem?_take, if_pos hj, List.getElem?_drop] at this
  rw [← this]
  simp

/-- A slice that is read: where its cells are. -/
def Reads (w : World) (v : Value) (n : Nat) (xs : List Value) : Prop :=
  (v = .slice none 0 0 ∧ n = 0 ∧ xs = []) ∨ ∃ a c, v = .slice (some a) n c ∧ ∀ j u, xs[j]? = some u → w.cell? (a.add j) = some u

theorem add_row (g off j : Nat) : (⟨g, off, none⟩ : Addr).add j = ⟨g, off + j, none⟩ := by
  unfold Addr.add; split <;> simp_all

section
variable {W w w' : World} {F L M : List Atom} {e : TypeId} {size n : Nat} {v : Value} {xs : List Value} {A : List Atom}

theorem RowA.cells (h : RowA e size v n xs A) (hs : Sat W w (A ++ F)) {g off c : Nat} (hv : v = .slice (some ⟨g, off, none⟩) n c) (j : Nat) (hj : j < xs.length) :
    w.cell? ⟨g, off + j, none⟩ = xs[j]? ∧ w.frozen? ⟨g, off + j, none⟩ = false := by
  rcases h.2 with ⟨h1, _⟩ | ⟨g', off', cap, h1, _, _, rfl⟩
  · rw [h1] at hv; cases hv
  · rw [h1] at hv; cases hv
    obtain ⟨o, ho, hp⟩ := hs.get (List.mem_append_left _ (List.mem_singleton.2 rfl))
    exact hp.cell ho j hj

theorem RowA.reads (h : RowA e size v n xs A) (hs : Sat W w (A ++ F)) : Reads w v n xs := by
  rcases h.2 with ⟨h1, h2, h3⟩ | ⟨g, off, cap, h1, _, _, h3⟩
  · exact .inl ⟨h1, h2, List.eq_nil_of_length_eq_zero (by rw [h.1, h2]; simp)⟩
  · refine .inr ⟨_, _, h1, fun j u hu => ?_⟩
    have hj : j < xs.length := (List.getElem?_eq_some_iff.1 hu).1
    rw [add_row, (h.cells hs h1 j hj).1, hu]

theorem Reads.same (h : Reads w v n xs) (hb : ∀ a c, v = .slice (some a) n c → w'.heap[a.block]? = w.heap[a.block]?) : Reads w' v n xs := by
  rcases h with h | ⟨a, c, h1, h2⟩
  · exact .inl h
  · refine .inr ⟨a, c, h1, fun j u hu => ?_⟩
    rw [World.cell?_of_block (w := w), h2 j u hu]
    have : (a.add j).block = a.block := by unfold Addr.add; split <;> rfl
    rw [this, hb a c h1]

theorem Reads.grown (h : Reads w v n xs) (hb : Below w.heap.size w w') : Reads w' v n xs := by
  rcases h with h | ⟨a, c, h1, h2⟩
  · exact .inl h
  · refine .inr ⟨a, c, h1, fun j u hu => ?_⟩
    have hc := h2 j u hu
    rw [hb.cell (World.block_lt_of_cell? _ _ hc), hc]

theorem Reads.take (h : Reads w v n xs) {m c : Nat} {a : Option Addr} (size : Nat) (hv : v = .slice a n c) (hm : m ≤ n) (hn : xs.length = n * size) : Reads w (.slice a m c) m (xs.take (m * size)) := by
  rcases h with ⟨h1, h2, h3⟩ | ⟨a', c', h1, h2⟩
  · rw [hv] at h1; cases h1
    obtain rfl : m = 0 := by omega
    exact .inl ⟨rfl, rfl, by simp⟩
  · rw [hv] at h1; cases h1
    refine .inr ⟨a', c, rfl, fun j u hu => ?_⟩
    rw [List.getElem?_take] at hu
    split at hu
    · exact h2 j u hu
    · cases hu

section
variable {P : Program} {t : TypeId} {i : TypeInfo} {z : Value} {bytes : Nat}

/-- append: the elements of sv behind those of v; the row is v's own afterwards, wherever it lies. -/
theorem append_sl (ty : TypeId) (ht : P.underlying t = some (.slice e)) (hi : P.info? e = some i) (hz : i.zero = some z) (hsize : i.size = size) (hby : i.bytes = bytes) (hzs : z.cells.size = size) (hsz : 0 < size)
    (hr : RowA e size v n xs A) (hs : Sat W w (A ++ F)) {sv : Value} {m : Nat} {news : List Value} (hsrc : Reads w sv m news) (hl : news.length = m * size) (h1 : ∀ u ∈ news, u.oneCell' = true)
    (h63 : n + m ≤ maxLen) (hbytes : (n + m) * bytes ≤ 140737488355328) :
    ∃ v' w' A', (Builtin.append_ #[t, t] ty #[v, sv]).run P w = .ok v' w' ∧ RowA e size v' (n + m) (xs ++ news) A' ∧ Sat W w' (A' ++ F) := by
  subst hsize
  subst hby
  have hsmall : n + m ≤ 9223372036854775807 := by simp only [maxLen] at h63; omega
  have hlen : (xs ++ news).length = (n + m) * i.size := by rw [List.length_append, hr.1, hl, Nat.add_mul]
  have hsF : Sat W w F := hs.right
  -- a row in new memory
  have grown : ∀ (old : Nat), old < n + m →
      RowA e i.size (.slice (some ⟨w.heap.size, 0, none⟩) (n + m) (grownCap w (n + m) old e)) (n + m) (xs ++ news) [(w.heap.size, rowP e 0 (grownCap w (n + m) old e * i.size) (xs ++ news))] ∧
      Sat W (w.drew.alloc (.cells (xs.toArray ++ news.toArray ++ Builtin.zeroCells z.cells (grownCap w (n + m) old e - (n + m))) e)) ([(w.heap.size, rowP e 0 (grownCap w (n + m) old e * i.size) (xs ++ news))] ++ F) := by
    intro old ho
    have hge := grownCap_ge w (n + m) old e
    have hcm : grownCap w (n + m) old e ≤ maxLen := grownCap_le_maxLen w (n + m) old e h63
    refine ⟨⟨hlen, .inr ⟨_, _, _, rfl, hge, hcm, rfl⟩⟩, ?_⟩
    refine hsF.drew.new _ ⟨_, rfl, ?_, ?_, ?_⟩
    · simp only [Array.size_append, List.size_toArray, size_zeroCells, hzs, hr.1, hl, ← Nat.add_mul, Nat.zero_add]
      apply Nat.le_of_eq
      congr 1
      omega
    · rw [hlen]; exact Nat.mul_le_mul_right _ hge
    · simp only [List.drop_zero, Array.toList_append, List.append_assoc]
      rw [← List.append_assoc]
      exact List.take_left
  rcases hr.2 with ⟨rfl, rfl, rfl⟩ | ⟨g, off, cap, rfl, hnc, hcm, rfl⟩
  · have hx : xs = [] := List.eq_nil_of_length_eq_zero (by simpa using hr.1)
    subst hx
    rcases hsrc with ⟨rfl, rfl, rfl⟩ | ⟨a, c, rfl, hnews⟩
    · refine ⟨.slice none 0 0, w, [], ?_, RowA.nil e i.size, hs⟩
      simp [Builtin.append_, run_underlying ht, sizeOf, typeInfo, hi, Builtin.lenOf, Builtin.firstCells]
    · by_cases hm : m = 0
      · subst hm
        obtain rfl : news = [] := List.eq_nil_of_length_eq_zero (by simpa using hl)
        refine ⟨.slice none 0 0, w, [], ?_, RowA.nil e i.size, hs⟩
        have hf := run_firstCells_some (P := P) w i.size 0 a 0 c [] (by simp) hnews
        simp [Builtin.append_, run_underlying ht, sizeOf, typeInfo, hi, Builtin.lenOf, hf]
      · obtain ⟨g1, g2⟩ := grown 0 (by omega)
        have hr' := run_append_nil (P := P) w t ty e i z ht hi hz a m c news hl hnews (by omega) (by omega) (by have := growslice_fits (need := m) (old := 0) (bytes := i.bytes) (by omega) (by simpa using hbytes); rw [nextslicecap_zero (by omega)] at this; exact this)
        refine ⟨_, _, _, ?_, g1, g2⟩
        simpa using hr'
  · have hob : ∃ o, w.heap[g]? = some o ∧ rowP e off (cap * i.size) xs o := hs.get (List.mem_append_left _ (List.mem_singleton.2 rfl))
    obtain ⟨o, hg, cur, rfl, hc1, hc2, hc3⟩ := hob
    rcases hsrc with ⟨rfl, rfl, rfl⟩ | ⟨a, c, rfl, hnews⟩
    · refine ⟨.slice (some ⟨g, off, none⟩) n cap, w, _, ?_, by simpa using hr, hs⟩
      simp [Builtin.append_, run_underlying ht, sizeOf, typeInfo, hi, Builtin.lenOf, Builtin.firstCells, hnc, storeCells]
    · by_cases hroom : n + m ≤ cap
      · have hfit : off + n * i.size + 0 + news.length ≤ cur.size := by
          rw [hl]
          have : (n + m) * i.size ≤ cap * i.size := Nat.mul_le_mul_right _ hroom
          rw [Nat.add_mul] at this
          omega
        have hf := run_firstCells_some (P := P) w i.size m a m c news hl hnews
        have hst := run_storeCells_at P g (off + n * i.size) e news 0 cur w hg hfit h1
        simp only [Nat.add_zero] at hst hfit
        refine ⟨.slice (some ⟨g, off, none⟩) (n + m) cap, w.setRow g (cur.toList.take (off + n * i.size) ++ news ++ cur.toList.drop (off + n * i.size + news.length)).toArray, [(g, rowP e off (cap * i.size) (xs ++ news))], ?_, ⟨hlen, .inr ⟨g, off, cap, rfl, hroom, hcm, rfl⟩⟩, ?_⟩
        · simp [Builtin.append_, run_underlying ht, sizeOf, typeInfo, hi, Builtin.lenOf, hroom, hf, Addr.add_lit, hst]
        · have hs2 : Sat W w ((g, rowP e off (cap * i.size) xs) :: F) := by simpa using hs
          refine hs2.turn ⟨rfl, rfl, rfl, by simp [World.setRow]⟩ (fun k _ hk => ?_) ⟨.cells (cur.toList.take (off + n * i.size) ++ news ++ cur.toList.drop (off + n * i.size + news.length)).toArray e (0, 0), ?_, ⟨_, rfl, ?_, ?_, ?_⟩⟩
          · simp [World.setRow, Array.getElem?_modify, Ne.symm hk]
          · simp only [World.setRow, Array.getElem?_modify, if_true, hg, Option.map_some]
          · simp; omega
          · rw [hlen]; exact Nat.mul_le_mul_right _ hroom
          · have e1 : (cur.toList.take (off + n * i.size)).drop off = xs := by
              rw [List.drop_take, Nat.add_sub_cancel_left, ← hr.1]; exact hc3
            rw [List.append_assoc, List.drop_append_of_le_length (by simp; omega), e1, ← List.append_assoc]
            exact List.take_left
      · obtain ⟨g1, g2⟩ := grown cap (by omega)
        have holds : ∀ j u, xs[j]? = some u → w.cell? ((⟨g, off, none⟩ : Addr).add j) = some u := fun j u hu => by
          rw [add_row, (hr.cells hs rfl j (List.getElem?_eq_some_iff.1 hu).1).1, hu]
        have hr' := run_append_grow (P := P) w t ty e i z ht hi hz ⟨g, off, none⟩ n cap xs hr.1 holds a m c news hl hnews (by omega) (by omega) (growslice_fits (by omega) hbytes)
        exact ⟨_, _, _, hr', g1, g2⟩
end
end

/-- A row whose cells are written. -/
theorem rowP.set {e : TypeId} {off len : Nat} {xs : List Value} {cur : Array Value} (h1 : off + len ≤ cur.size) (h2 : xs.length ≤ len) (h3 : (cur.toList.drop off).take xs.length = xs) (j : Nat) (u : Value) :
    rowP e off len (xs.set j u) (.cells (if j < xs.length then cur.setIfInBounds (off + j) u else cur) e (0, 0)) := by
  refine ⟨_, rfl, ?_, by simpa using h2, ?_⟩
  · split <;> simpa using h1
  · by_cases hj : j < xs.length
    · rw [if_pos hj, List.length_set, Array.toList_setIfInBounds, List.drop_set, if_neg (by omega), Nat.add_sub_cancel_left, List.take_set, h3]
    · rw [if_neg hj, List.length_set, List.set_eq_of_length_le (by omega), h3]

theorem row_store {W w : World} {g : Nat} {e : TypeId} {off len : Nat} {xs : List Value} {F : List Atom} (hs : Sat W w ((g, rowP e off len xs) :: F)) (j : Nat) (hj : j < xs.length) (u : Value) :
    Sat W (w.setCell ⟨g, off + j, none⟩ u) ((g, rowP e off len (xs.set j u)) :: F) := by
  obtain ⟨o, ho, cur, rfl, h1, h2, h3⟩ := hs.head
  refine hs.turn (Inert.setCell w _ u) (fun k _ hk => Below.heap_setCell w _ u k hk) ⟨.cells (cur.setIfInBounds (off + j) u) e (0, 0), ?_, ?_⟩
  · simp only [World.setCell, Array.getElem?_modify, if_true, ho, Option.map_some]
    rfl
  · have := rowP.set (e := e) h1 h2 h3 j u
    rw [if_pos hj] at this
    exact this

/-! ### builtins at the operation -/
section
variable {P : Program} {o : Oper} {a : Act} {w w' : World} {K : Act → World → Prop} {Q : Exit → Act → World → Prop} {ts : Array TypeId} {v : Value}
theorem wp_of_value (h : (execOp a.eval o).run P w = .ok (.value v) w') (hk : K (a.put o.dst v) w') : o.wp P a w K Q := by
  unfold Oper.wp
  rw [h]
  exact hk
theorem wp_append {x y : Operand} (hop : o.op = .call { callee := .builtin .append, args := #[x, y], argTypes := ts }) (h : (Builtin.append_ ts o.type #[a.eval x, a.eval y]).run P w = .ok v w') (hk : K (a.put o.dst v) w') : o.wp P a w K Q := by
  refine wp_of_value ?_ hk
  simp only [execOp, hop, resolve, invoke, builtin, Sem.run_bind, Sem.run_pure, Result.andThen_ok, List.map_toArray, List.map_cons, List.map_nil, h]
theorem wp_delete {x y : Operand} (hop : o.op = .call { callee := .builtin .delete, args := #[x, y], argTypes := ts }) (h : (Builtin.delete_ ts o.type #[a.eval x, a.eval y]).run P w = .ok v w') (hk : K (a.put o.dst v) w') : o.wp P a w K Q := by
  refine wp_of_value ?_ hk
  simp only [execOp, hop, resolve, invoke, builtin, Sem.run_bind, Sem.run_pure, Result.andThen_ok, List.map_toArray, List.map_cons, List.map_nil, h]
theorem wp_clear {x : Operand} (hop : o.op = .call { callee := .builtin .clear, args := #[x], argTypes := ts }) (h : (Builtin.clear_ ts o.type #[a.eval x]).run P w = .ok v w') (hk : K (a.put o.dst v) w') : o.wp P a w K Q := by
  refine wp_of_value ?_ hk
  simp only [execOp, hop, resolve, invoke, builtin, Sem.run_bind, Sem.run_pure, Result.andThen_ok, List.map_toArray, List.map_cons, List.map_nil, h]
theorem wp_copy {x y : Operand} (hop : o.op = .call { callee := .builtin .copy, args := #[x, y], argTypes := ts }) (h : (Builtin.copy_ ts o.type #[a.eval x, a.eval y]).run P w = .ok v w') (hk : K (a.put o.dst v) w') : o.wp P a w K Q := by
  refine wp_of_value ?_ hk
  simp only [execOp, hop, resolve, invoke, builtin, Sem.run_bind, Sem.run_pure, Result.andThen_ok, List.map_toArray, List.map_cons, List.map_nil, h]
end
end Go.Sl
