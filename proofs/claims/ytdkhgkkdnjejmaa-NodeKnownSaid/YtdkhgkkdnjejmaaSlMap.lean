/-
  Maps that are owned: 'mapA b k f n': block b is a map of n entries over keys of a plain kind k (an integer's, a string's, a bool's) that gives f; the laws of lookup, store, delete, len, and of the store in two steps.
-/
import Derived.Test.YtdkhgkkdnjejmaaSl
import Derived.MapKept
namespace Go.Sl
set_option linter.unusedVariables false
set_option linter.unusedSimpArgs false
open Go Go.RowKit

/-- A key of a plain kind. -/
def PlainKey : TypeDesc → Value → Prop
  | .int q, .int q' _ => q = q'
  | .string, .string _ => True
  | .bool, .bool _ => True
  | _, _ => False

noncomputable def updV (f : Value → Option Value) (k v : Value) (x : Value) : Option Value := by classical exact if x = k then some v else f x
noncomputable def delV (f : Value → Option Value) (k : Value) (x : Value) : Option Value := by classical exact if x = k then none else f x
theorem updV_same (f : Value → Option Value) (k v : Value) : updV f k v k = some v := by simp [updV]
theorem updV_other (f : Value → Option Value) {k x : Value} (v : Value) (h : x ≠ k) : updV f k v x = f x := by simp [updV, h]
theorem delV_same (f : Value → Option Value) (k : Value) : delV f k k = none := by simp [delV]
theorem delV_other (f : Value → Option Value) {k x : Value} (h : x ≠ k) : delV f k x = f x := by simp [delV, h]

/-- The entries es under the clock give f. -/
structure MapOk (d : TypeDesc) (es : Array MapEntry) (clock : Nat) (f : Value → Option Value) (n : Nat) : Prop where
  keys : ∀ e ∈ es.toList, PlainKey d e.key
  apart : (es.toList.map (·.key)).Nodup
  stamps : (es.toList.map (·.born)).Nodup
  young : ∀ e ∈ es.toList, e.born < clock
  gives : ∀ e ∈ es.toList, f e.key = some e.val
  all : ∀ k v, f k = some v → ∃ e ∈ es.toList, e.key = k ∧ e.val = v
  size : es.size = n

def mapP (d : TypeDesc) (f : Value → Option Value) (n : Nat) (o : Obj) : Prop := ∃ es clock, o = .map es clock ∧ MapOk d es clock f n
def mapA (b : Nat) (d : TypeDesc) (f : Value → Option Value) (n : Nat) : Atom := (b, mapP d f n)

theorem sameNow_plain {d : TypeDesc} {a b : Value} (ha : PlainKey d a) (hb : PlainKey d b) : ∃ r, Instr.sameNow d a b = some r ∧ (r = true ↔ b = a) := by
  cases d <;> cases a <;> cases b <;> simp only [PlainKey] at ha hb <;> simp only [Instr.sameNow]
  case int.int.int q q1 x q2 y =>
    subst ha; subst hb
    refine ⟨x == y, by rw [if_pos rfl], ?_⟩
    rw [beq_iff_eq]
    exact ⟨fun h => by rw [h], fun h => by cases h; rfl⟩
  case string.string.string x y =>
    refine ⟨x == y, rfl, ?_⟩
    rw [MapKept.bytes_beq]
    exact ⟨fun h => by rw [h], fun h => by cases h; rfl⟩
  case bool.bool.bool x y =>
    refine ⟨x == y, rfl, ?_⟩
    rw [beq_iff_eq]
    exact ⟨fun h => by rw [h], fun h => by cases h; rfl⟩

theorem findNow_some {d : TypeDesc} {k : Value} (hk : PlainKey d k) : ∀ (es : List MapEntry) (i : Nat), (∀ e ∈ es, PlainKey d e.key) →
    (Instr.findNow d k es i = some none ∧ ∀ e ∈ es, e.key ≠ k) ∨ ∃ j e, Instr.findNow d k es i = some (some (i + j, e.val)) ∧ es[j]? = some e ∧ e.key = k
  | [], _, _ => .inl ⟨rfl, by simp⟩
  | e :: es, i, h => by
    obtain ⟨r, hr, hr'⟩ := sameNow_plain hk (h e (by simp))
    cases r with
    | true => exact .inr ⟨0, e, by simp [Instr.findNow, hr], rfl, hr'.1 rfl⟩
    | false =>
      have hne : e.key ≠ k := fun he => by have := hr'.2 he; cases this
      rcases findNow_some hk es (i + 1) (fun e he => h e (by simp [he])) with ⟨h1, h2⟩ | ⟨j, e', h1, h2, h3⟩
      · exact .inl ⟨by simp [Instr.findNow, hr, h1], by simpa [hne] using h2⟩
      · exact .inr ⟨j + 1, e', by simp [Instr.findNow, hr, h1]; omega, by simpa using h2, h3⟩

theorem nodup_inj {α : Type} {l : List α} (h : l.Nodup) {i j : Nat} {x : α} (h1 : l[i]? = some x) (h2 : l[j]? = some x) : i = j := by
  obtain ⟨a1, b1⟩ := List.getElem?_eq_some_iff.1 h1
  obtain ⟨a2, b2⟩ := List.getElem?_eq_some_iff.1 h2
  have hp := List.pairwise_iff_getElem.1 (List.nodup_iff_pairwise_ne.1 h)
  rcases Nat.lt_trichotomy i j with hl | hl | hl
  · exact absurd (b1.trans b2.symm) (hp i j a1 a2 hl)
  · exact hl
  · exact absurd (b2.trans b1.symm) (hp j i a2 a1 hl)

theorem perm_eraseIdx {α : Type} : ∀ {l : List α} {j : Nat} {x : α}, l[j]? = some x → l.Perm (x :: l.eraseIdx j)
  | [], j, x, h => by simp at h
  | y :: l, 0, x, h => by simp at h; subst h; simp
  | y :: l, j + 1, x, h => by
    simp only [List.getElem?_cons_succ] at h
    simp only [List.eraseIdx_cons_succ]
    exact ((perm_eraseIdx h).cons y).trans (.swap ..)

section
variable {P : Program} {w : World}

theorem run_findKey' {t : TypeId} {d : TypeDesc} (ht : P.underlying t = some d) {k : Value} (hk : PlainKey d k) {es : List MapEntry} (hes : ∀ e ∈ es, PlainKey d e.key) :
    ((Instr.findKey t k es).run P w = .ok none w ∧ ∀ e ∈ es, e.key ≠ k) ∨ ∃ j e, (Instr.findKey t k es).run P w = .ok (some (j, e.val)) w ∧ es[j]? = some e ∧ e.key = k := by
  rcases findNow_some hk es 0 hes with ⟨h1, h2⟩ | ⟨j, e, h1, h2, h3⟩
  · exact .inl ⟨by simp [Instr.findKey, run_underlying ht, h1], h2⟩
  · exact .inr ⟨j, e, by simp [Instr.findKey, run_underlying ht, h1], h2, h3⟩

theorem run_checkKey' {t : TypeId} {d : TypeDesc} (ht : P.underlying t = some d) {k : Value} (hk : PlainKey d k) (em : Bool) (n : Nat) : (Instr.checkKey em (n + 1) t k).run P w = .ok () w := by
  cases d <;> cases k <;> simp only [PlainKey] at hk <;> simp [Instr.checkKey, run_underlying ht]

theorem run_keyThatStays' {d : TypeDesc} {k : Value} (hk : PlainKey d k) : (Instr.keyThatStays k k).run P w = .ok k w := by
  cases d <;> cases k <;> simp only [PlainKey] at hk <;> simp [Instr.keyThatStays, Instr.sameBits, (MapKept.bytes_beq _ _).2 rfl]

variable {d : TypeDesc} {es : Array MapEntry} {clock n : Nat} {f : Value → Option Value}

theorem MapOk.none_iff (h : MapOk d es clock f n) {k : Value} : f k = none ↔ ∀ e ∈ es.toList, e.key ≠ k := by
  constructor
  · intro hk e he hek
    have := h.gives e he
    rw [hek, hk] at this
    cases this
  · intro hk
    cases hf : f k with
    | none => rfl
    | some v =>
      obtain ⟨e, he, h1, _⟩ := h.all k v hf
      exact absurd h1 (hk e he)

theorem MapOk.find {t : TypeId} (h : MapOk d es clock f n) (ht : P.underlying t = some d) {k : Value} (hk : PlainKey d k) :
    (f k = none ∧ (Instr.findKey t k es.toList).run P w = .ok none w) ∨ ∃ j e, f k = some e.val ∧ (Instr.findKey t k es.toList).run P w = .ok (some (j, e.val)) w ∧ es.toList[j]? = some e ∧ e.key = k := by
  rcases run_findKey' (w := w) ht hk h.keys with ⟨h1, h2⟩ | ⟨j, e, h1, h2, h3⟩
  · exact .inl ⟨h.none_iff.2 h2, h1⟩
  · refine .inr ⟨j, e, ?_, h1, h2, h3⟩
    rw [← h3]
    exact h.gives e (List.mem_of_getElem? h2)

theorem MapOk.empty (d : TypeDesc) (c : Nat) : MapOk d #[] c (fun _ => none) 0 := ⟨by simp, by simp, by simp, by simp, by simp, by simp, by simp⟩

theorem MapOk.push (h : MapOk d es clock f n) {k v : Value} (hk : PlainKey d k) (hf : f k = none) : MapOk d (es.push { key := k, val := v, born := clock }) (clock + 1) (updV f k v) (n + 1) where
  keys := by
    intro e he
    simp only [Array.toList_push, List.mem_append, List.mem_singleton] at he
    rcases he with he | rfl
    · exact h.keys e he
    · exact hk
  apart := by
    have := h.none_iff.1 hf
    simp only [Array.toList_push, List.map_append, List.map_cons, List.map_nil, List.nodup_append, h.apart, true_and]
    refine ⟨by simp, fun a ha b hb => ?_⟩
    obtain ⟨e, he, rfl⟩ := List.mem_map.1 ha
    simp only [List.mem_singleton] at hb
    subst hb
    exact this e he
  stamps := by
    simp only [Array.toList_push, List.map_append, List.map_cons, List.map_nil, List.nodup_append, h.stamps, true_and]
    refine ⟨by simp, fun a ha b hb => ?_⟩
    obtain ⟨e, he, rfl⟩ := List.mem_map.1 ha
    simp only [List.mem_singleton] at hb
    subst hb
    exact Nat.ne_of_lt (h.young e he)
  young := by
    intro e he
    simp only [Array.toList_push, List.mem_append, List.mem_singleton] at he
    rcases he with he | rfl
    · have := h.young e he; omega
    · simp
  gives := by
    intro e he
    simp only [Array.toList_push, List.mem_append, List.mem_singleton] at he
    rcases he with he | rfl
    · have := h.none_iff.1 hf e he
      rw [updV_other _ _ (fun e2 => by rw [← e2, h.gives e he] at hf; cases hf), h.gives e he]
    · exact updV_same ..
  all := by
    intro x u hx
    by_cases e : x = k
    · rw [e, updV_same] at hx
      exact ⟨{ key := k, val := v, born := clock }, by simp, e.symm, Option.some.inj hx⟩
    · rw [updV_other _ _ e] at hx
      obtain ⟨y, hy, h1, h2⟩ := h.all x u hx
      exact ⟨y, by simp [hy], h1, h2⟩
  size := by simp [h.size]

/-- The value of one entry is written anew. -/
theorem MapOk.set (h : MapOk d es clock f n) {j : Nat} {e : MapEntry} (hj : es.toList[j]? = some e) (v : Value) : MapOk d (es.modify j fun e => { e with val := v }) clock (updV f e.key v) n := by
  have hlt : j < es.size := by have := (List.getElem?_eq_some_iff.1 hj).1; simpa using this
  have hmod : (es.modify j fun e => { e with val := v }).toList = es.toList.set j { e with val := v } := by
    rw [Array.toList_modify]
    apply List.ext_getElem?
    intro i
    rw [List.getElem?_modify, List.getElem?_set]
    by_cases hij : j = i
    · subst hij
      have := (List.getElem?_eq_some_iff.1 hj).2
      simp at this
      simp [hlt, this]
    · simp [hij]
  have hkeys : (es.toList.set j { e with val := v }).map (·.key) = es.toList.map (·.key) := by
    rw [List.map_set]
    apply List.ext_getElem?
    intro i
    rw [List.getElem?_set]
    by_cases hij : j = i
    · subst hij
      have := (List.getElem?_eq_some_iff.1 hj).2
      simp at this
      simp [hlt, this]
    · simp [hij]
  have hborn : (es.toList.set j { e with val := v }).map (·.born) = es.toList.map (·.born) := by
    rw [List.map_set]
    apply List.ext_getElem?
    intro i
    rw [List.getElem?_set]
    by_cases hij : j = i
    · subst hij
      have := (List.getElem?_eq_some_iff.1 hj).2
      simp at this
      simp [hlt, this]
    · simp [hij]
  have hinj : ∀ x ∈ es.toList, ∀ i, es.toList[i]? = some x → i ≠ j → x.key ≠ e.key := by
    intro x _ i hi hij hk
    have h1 : (es.toList.map (·.key))[i]? = some e.key := by simp [hi, hk]
    have h2 : (es.toList.map (·.key))[j]? = some e.key := by simp [hj]
    exact hij (nodup_inj h.apart h1 h2)
  have hmem : ∀ x, x ∈ es.toList.set j { e with val := v } → (x = { e with val := v }) ∨ (x ∈ es.toList ∧ x.key ≠ e.key) := by
    intro x hx
    obtain ⟨i, hi⟩ := List.getElem?_of_mem hx
    rw [List.getElem?_set] at hi
    by_cases hij : j = i
    · subst hij; simp [hlt] at hi; exact .inl hi.symm
    · rw [if_neg hij] at hi
      have hm := List.mem_of_getElem? hi
      exact .inr ⟨hm, hinj x hm i hi (Ne.symm hij)⟩
  refine ⟨?_, ?_, ?_, ?_, ?_, ?_, by simp [h.size]⟩ <;> simp only [hmod]
  · intro x hx
    rcases hmem x hx with rfl | ⟨hx, _⟩
    · exact h.keys e (List.mem_of_getElem? hj)
    · exact h.keys x hx
  · rw [hkeys]; exact h.apart
  · rw [hborn]; exact h.stamps
  · intro x hx
    rcases hmem x hx with rfl | ⟨hx, _⟩
    · exact h.young e (List.mem_of_getElem? hj)
    · exact h.young x hx
  · intro x hx
    rcases hmem x hx with rfl | ⟨hx, hne⟩
    · exact updV_same ..
    · rw [updV_other _ _ hne, h.gives x hx]
  · intro x u hx
    by_cases he : x = e.key
    · rw [he, updV_same] at hx
      refine ⟨{ e with val := v }, ?_, he.symm, Option.some.inj hx⟩
      exact List.mem_of_getElem? (i := j) (by simp [hlt])
    · rw [updV_other _ _ he] at hx
      obtain ⟨y, hy, h1, h2⟩ := h.all x u hx
      obtain ⟨i, hi⟩ := List.getElem?_of_mem hy
      refine ⟨y, List.mem_of_getElem? (i := i) ?_, h1, h2⟩
      have hij : j ≠ i := by
        rintro rfl
        rw [hj] at hi
        cases hi
        exact he h1.symm
      simp [hij, hi]

theorem MapOk.erase (h : MapOk d es clock f n) {j : Nat} {e : MapEntry} (hj : es.toList[j]? = some e) : MapOk d (es.eraseIdxIfInBounds j) clock (delV f e.key) (n - 1) := by
  have hlt : j < es.size := by have := (List.getElem?_eq_some_iff.1 hj).1; simpa using this
  have hl : (es.eraseIdxIfInBounds j).toList = es.toList.eraseIdx j := by simp [Array.eraseIdxIfInBounds, hlt]
  have hsub : (es.toList.eraseIdx j).Sublist es.toList := List.eraseIdx_sublist _ _
  have hne : ∀ x ∈ es.toList.eraseIdx j, x.key ≠ e.key := by
    intro x hx hk
    have hp : (es.toList.map (·.key)).Perm (e.key :: (es.toList.eraseIdx j).map (·.key)) := by
      have h1 : es.toList.Perm (e :: es.toList.eraseIdx j) := perm_eraseIdx hj
      simpa using h1.map (·.key)
    have := hp.nodup_iff.1 h.apart
    rw [List.nodup_cons] at this
    exact this.1 (List.mem_map.2 ⟨x, hx, hk⟩)
  refine ⟨?_, ?_, ?_, ?_, ?_, ?_, ?_⟩ <;> (try simp only [hl])
  · exact fun x hx => h.keys x (hsub.subset hx)
  · exact (hsub.map _).nodup h.apart
  · exact (hsub.map _).nodup h.stamps
  · exact fun x hx => h.young x (hsub.subset hx)
  · intro x hx
    rw [delV_other _ (hne x hx), h.gives x (hsub.subset hx)]
  · intro x u hx
    by_cases he : x = e.key
    · rw [he, delV_same] at hx; cases hx
    · rw [delV_other _ he] at hx
      obtain ⟨y, hy, h1, h2⟩ := h.all x u hx
      obtain ⟨i, hi⟩ := List.getElem?_of_mem hy
      have hij : i ≠ j := by
        rintro rfl
        rw [hj] at hi
        cases hi
        exact he h1.symm
      refine ⟨y, ?_, h1, h2⟩
      rw [List.mem_eraseIdx_iff_getElem?]
      exact ⟨i, hij, hi⟩
  · rw [← Array.length_toList, hl, List.length_eraseIdx]
    have := h.size
    simp [this]
    omega

/-! ### the operations -/
variable {W : World} {L F : List Atom} {b : Nat} {t k e : TypeId} {key z v : Value}

theorem lookup_sl (hs : Sat W w L) (hm : mapA b d f n ∈ L) (ht : P.underlying t = some (.map k e)) (hk : P.underlying k = some d) (hkey : PlainKey d key) (hz : (zeroValue e).run P w = .ok z w) (ok : Bool) :
    (Instr.lookup t (.map (some b)) key ok).run P w = .ok (if ok then .tuple #[(f key).getD z, .bool (f key).isSome] else (f key).getD z) w := by
  obtain ⟨o, ho, es, clock, rfl, h⟩ := hs.get hm
  have hc := run_checkKey' (P := P) (w := w) hk hkey es.isEmpty 9999
  have hgo : (getObj b).run P w = .ok (.map es clock) w := by simp [getObj, Sem.run, ho]
  rcases h.find (w := w) hk hkey with ⟨h1, h2⟩ | ⟨j, e', h1, h2, _, _⟩
  · simp [Instr.lookup, run_underlying ht, hgo, hc, h2, hz, h1]
  · simp [Instr.lookup, run_underlying ht, hgo, hc, h2, h1]

theorem setObj_sl (hs : Sat W w ((b, mapP d f n) :: F)) (es' : Array MapEntry) (clock' : Nat) {p : Obj → Prop} (hp : p (.map es' clock')) :
    ∃ w', (setObj b (.map es' clock')).run P w = .ok () w' ∧ Sat W w' ((b, p) :: F) := by
  obtain ⟨o, ho, es, clock, rfl, h⟩ := hs.head
  have hlt : b < w.heap.size := (Array.getElem?_eq_some_iff.1 ho).1
  refine ⟨_, by simp only [setObj, Sem.run, ho]; rfl, ?_⟩
  refine hs.turn ⟨rfl, rfl, rfl, by simp⟩ (fun i _ hi => ?_) ⟨.map es' clock', ?_, hp⟩
  · simp [Ne.symm hi]
  · simp [hlt]

theorem modify_val {es : Array MapEntry} {j : Nat} {e' : MapEntry} (hj : es.toList[j]? = some e') (v : Value) :
    (es.modify j fun e => { e with key := e'.key, val := v }) = es.modify j fun e => { e with val := v } := by
  apply Array.ext_getElem?
  intro i
  simp only [Array.getElem?_modify]
  by_cases h : j = i
  · subst h
    have hj' : es[j]? = some e' := by simpa using hj
    simp [hj']
  · simp [h]

theorem modify_key {es : Array MapEntry} {j : Nat} {e' : MapEntry} (hj : es.toList[j]? = some e') :
    (es.modify j fun e => { e with key := e'.key }) = es := by
  apply Array.ext_getElem?
  intro i
  simp only [Array.getElem?_modify]
  by_cases h : j = i
  · subst h
    have hj' : es[j]? = some e' := by simpa using hj
    simp [hj']
  · simp [h]

/-- m[key] = v -/
theorem mapUpdate_sl (hs : Sat W w (mapA b d f n :: F)) (ht : P.underlying t = some (.map k e)) (hk : P.underlying k = some d) (hkey : PlainKey d key) (v : Value) :
    ∃ w', (Instr.mapUpdate t (.map (some b)) key v).run P w = .ok () w' ∧ Sat W w' (mapA b d (updV f key v) (if (f key).isSome then n else n + 1) :: F) := by
  obtain ⟨o, ho, es, clock, rfl, h⟩ := hs.head
  have hc := run_checkKey' (P := P) (w := w) hk hkey false 9999
  have hgo : (getObj b).run P w = .ok (.map es clock) w := by simp [getObj, Sem.run, ho]
  rcases h.find (w := w) hk hkey with ⟨h1, h2⟩ | ⟨j, e', h1, h2, h3, h4⟩
  · obtain ⟨w', hr, hs'⟩ := setObj_sl (P := P) hs (es.push { key := key, val := v, born := clock }) (clock + 1) (p := mapP d (updV f key v) (n + 1)) ⟨_, _, rfl, h.push hkey h1⟩
    refine ⟨w', ?_, by simpa [h1, mapA] using hs'⟩
    simp [Instr.mapUpdate, run_underlying ht, hgo, hc, h2, hr]
  · subst h4
    obtain ⟨w', hr, hs'⟩ := setObj_sl (P := P) hs (es.modify j fun e => { e with val := v }) clock (p := mapP d (updV f e'.key v) n) ⟨_, _, rfl, h.set h3 v⟩
    refine ⟨w', ?_, by simpa [h1, mapA] using hs'⟩
    have hj' : es[j]? = some e' := by simpa using h3
    have hst := run_keyThatStays' (P := P) (w := w) hkey
    simp [Instr.mapUpdate, run_underlying ht, hgo, hc, h2, hj', hst, modify_val h3, hr]

/-- The map's block between the two steps of 'm[key] = v' in a tuple assignment: key is there, its stamp is s. -/
def stampP (d : TypeDesc) (f : Value → Option Value) (n : Nat) (key : Value) (s : Nat) (o : Obj) : Prop :=
  ∃ es clock, o = .map es clock ∧ MapOk d es clock f n ∧ ∃ e ∈ es.toList, e.key = key ∧ e.born = s

theorem mapEntry_sl (hs : Sat W w (mapA b d f n :: F)) (ht : P.underlying t = some (.map k e)) (hk : P.underlying k = some d) (hkey : PlainKey d key) (hz : (zeroValue e).run P w = .ok z w) :
    ∃ w', ∃ s : Nat, (Instr.mapEntry t (.map (some b)) key).run P w = .ok (.tuple #[(f key).getD z, .int .i64 (s : Int)]) w' ∧ Sat W w' ((b, stampP d (updV f key ((f key).getD z)) (if (f key).isSome then n else n + 1) key s) :: F) := by
  obtain ⟨o, ho, es, clock, rfl, h⟩ := hs.head
  have hc := run_checkKey' (P := P) (w := w) hk hkey false 9999
  have hgo : (getObj b).run P w = .ok (.map es clock) w := by simp [getObj, Sem.run, ho]
  rcases h.find (w := w) hk hkey with ⟨h1, h2⟩ | ⟨j, e', h1, h2, h3, h4⟩
  · obtain ⟨w', hr, hs'⟩ := setObj_sl (P := P) hs (es.push { key := key, val := z, born := clock }) (clock + 1) (p := stampP d (updV f key z) (n + 1) key clock) ⟨_, _, rfl, h.push hkey h1, { key := key, val := z, born := clock }, by simp, rfl, rfl⟩
    refine ⟨w', clock, ?_, by simpa [h1, mapA] using hs'⟩
    simp [Instr.mapEntry, run_underlying ht, hgo, hc, h2, hz, hr, h1, goInt]
  · subst h4
    have hup : updV f e'.key e'.val = f := by
      funext x
      by_cases hx : x = e'.key
      · rw [hx, updV_same, h1]
      · rw [updV_other _ _ hx]
    obtain ⟨w', hr, hs'⟩ := setObj_sl (P := P) hs es clock (p := stampP d f n e'.key e'.born) ⟨_, _, rfl, h, _, List.mem_of_getElem? h3, rfl, rfl⟩
    refine ⟨w', e'.born, ?_, by simpa [h1, hup] using hs'⟩
    have hj' : es[j]? = some e' := by simpa using h3
    have hst := run_keyThatStays' (P := P) (w := w) hkey
    simp [Instr.mapEntry, run_underlying ht, hgo, hc, h2, hj', hst, modify_key h3, hr, h1, goInt]

theorem entryStore_sl {s : Nat} (hs : Sat W w ((b, stampP d f n key s) :: F)) (v : Value) :
    ∃ w', (Instr.entryStore t (.map (some b)) (.int .i64 (s : Int)) v).run P w = .ok () w' ∧ Sat W w' (mapA b d (updV f key v) n :: F) := by
  obtain ⟨o, ho, es, clock, rfl, h, e0, he0, rfl, rfl⟩ := hs.head
  have hgo : (getObj b).run P w = .ok (.map es clock) w := by simp [getObj, Sem.run, ho]
  obtain ⟨j, hj⟩ := List.getElem?_of_mem he0
  have hj' : es[j]? = some e0 := by simpa using hj
  have hjl := (List.getElem?_eq_some_iff.1 hj)
  have hf : es.findIdx? (fun e => (e.born : Int) == (e0.born : Int)) = some j := by
    rw [Array.findIdx?_eq_some_iff_findIdx_eq] 
    have hsz : j < es.size := by simpa using hjl.1
    refine ⟨hsz, ?_⟩
    rw [Array.findIdx_eq hsz]
    have hje : es[j] = e0 := by simpa using hjl.2
    refine ⟨by simp [hje], fun i hi => ?_⟩
    have hne : (es[i]'(by omega)).born ≠ e0.born := by
      intro hb
      have h1 : (es.toList.map (·.born))[i]? = some e0.born := by simp [show i < es.size by omega, hb]
      have h2 : (es.toList.map (·.born))[j]? = some e0.born := by simp [hj]
      have := nodup_inj h.stamps h1 h2
      omega
    simp only [beq_eq_false_iff_ne, ne_eq]
    omega
  have hs2 : Sat W w ((b, mapP d f n) :: F) := hs.turn (Inert.refl w) (fun _ _ _ => rfl) ⟨_, ho, _, _, rfl, h⟩
  obtain ⟨w', hr, hs'⟩ := setObj_sl (P := P) hs2 (es.modify j fun e => { e with val := v }) clock (p := mapP d (updV f e0.key v) n) ⟨_, _, rfl, h.set hj v⟩
  refine ⟨w', ?_, hs'⟩
  simp [Instr.entryStore, hgo, asInt, asIntOf, hf, hr]

theorem updV_updV (f : Value → Option Value) (k u v : Value) : updV (updV f k u) k v = updV f k v := by
  funext x
  by_cases hx : x = k
  · rw [hx, updV_same, updV_same]
  · rw [updV_other _ _ hx, updV_other _ _ hx, updV_other _ _ hx]

theorem delete_sl (hs : Sat W w (mapA b d f n :: F)) (ht : P.underlying t = some (.map k e)) (hk : P.underlying k = some d) (hkey : PlainKey d key) (u ty : TypeId) :
    ∃ w', (Builtin.delete_ #[t, u] ty #[.map (some b), key]).run P w = .ok (.tuple #[]) w' ∧ Sat W w' (mapA b d (delV f key) (if (f key).isSome then n - 1 else n) :: F) := by
  obtain ⟨o, ho, es, clock, rfl, h⟩ := hs.head
  have hc := run_checkKey' (P := P) (w := w) hk hkey es.isEmpty 9999
  have hgo : (getObj b).run P w = .ok (.map es clock) w := by simp [getObj, Sem.run, ho]
  rcases h.find (w := w) hk hkey with ⟨h1, h2⟩ | ⟨j, e', h1, h2, h3, h4⟩
  · have hd : delV f key = f := by
      funext x
      by_cases hx : x = key
      · rw [hx, delV_same, h1]
      · rw [delV_other _ hx]
    obtain ⟨w', hr, hs'⟩ := setObj_sl (P := P) hs es clock (p := mapP d f n) ⟨_, _, rfl, h⟩
    refine ⟨w', ?_, by simpa [h1, hd, mapA] using hs'⟩
    simp [Builtin.delete_, run_underlying ht, hgo, hc, h2, hr]
  · subst h4
    obtain ⟨w', hr, hs'⟩ := setObj_sl (P := P) hs (es.eraseIdxIfInBounds j) clock (p := mapP d (delV f e'.key) (n - 1)) ⟨_, _, rfl, h.erase h3⟩
    refine ⟨w', ?_, by simpa [h1, mapA] using hs'⟩
    simp [Builtin.delete_, run_underlying ht, hgo, hc, h2, hr]

theorem len_sl (hs : Sat W w L) (hm : mapA b d f n ∈ L) (ht : P.underlying t = some (.map k e)) (ty : TypeId) : (Builtin.len_ #[t] ty #[.map (some b)]).run P w = .ok (.int .i64 (n : Int)) w := by
  obtain ⟨o, ho, es, clock, rfl, h⟩ := hs.get hm
  have hgo : (getObj b).run P w = .ok (.map es clock) w := by simp [getObj, Sem.run, ho]
  simp [Builtin.len_, run_underlying ht, hgo, h.size, goInt]

theorem clear_sl (hs : Sat W w (mapA b d f n :: F)) (ht : P.underlying t = some (.map k e)) (ty : TypeId) :
    ∃ w', (Builtin.clear_ #[t] ty #[.map (some b)]).run P w = .ok (.tuple #[]) w' ∧ Sat W w' (mapA b d (fun _ => none) 0 :: F) := by
  obtain ⟨o, ho, es, clock, rfl, h⟩ := hs.head
  have hgo : (getObj b).run P w = .ok (.map es clock) w := by simp [getObj, Sem.run, ho]
  obtain ⟨w', hr, hs'⟩ := setObj_sl (P := P) hs #[] clock (p := mapP d (fun _ => none) 0) ⟨_, _, rfl, MapOk.empty d clock⟩
  refine ⟨w', ?_, hs'⟩
  simp [Builtin.clear_, run_underlying ht, hgo, hr]

theorem newMap_sl (hs : Sat W w F) (d : TypeDesc) : Sat W (w.alloc (.map #[] 0)) (mapA w.heap.size d (fun _ => none) 0 :: F) := hs.new _ ⟨_, _, rfl, MapOk.empty d 0⟩
end
end Go.Sl
