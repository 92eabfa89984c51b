
/-
  A range over a map that stands for a list: what is left to come is a list, one of which comes out, whichever.
-/
import Derived.Test.YtekbbpfnkbanjaaKcA
namespace Go.Proofs.Ytekbbpfnkbanjaa.Ch
set_option linter.unusedSimpArgs false
open Go Go.RowKit Go.Sl
set_option linter.unusedVariables false

/-- What is left to come, as a list. -/
def RngL {α : Type} (es : Array MapEntry) (seen : Array Nat) (kf vf : α → Value) (todo : List α) : Prop :=
  ((leftOf es seen).toList.map fun e => (e.key, e.val)).Perm (todo.map fun a => (kf a, vf a))

theorem pairs_nodup {α β γ : Type} {l : List α} {f : α → β} {g : α → γ} (h : (l.map f).Nodup) : (l.map fun a => (f a, g a)).Nodup := by
  have : (l.map fun a => (f a, g a)).map Prod.fst = l.map f := by rw [List.map_map]; rfl
  rw [← this] at h
  exact List.Pairwise.of_map Prod.fst (fun a b hab e => hab (by rw [e])) h

section
variable {α : Type} {es : Array MapEntry} {clock n : Nat} {d : TypeDesc} {f : Value → Option Value} {kf vf : α → Value} {seen : Array Nat} {todo : List α}

theorem rng_start (hm : MapOk d es clock f n) (l : List α) (hn : (l.map kf).Nodup) (hf : ∀ k v, f k = some v ↔ ∃ a ∈ l, kf a = k ∧ vf a = v) : RngL es #[] kf vf l := by
  unfold RngL
  have e0 : (leftOf es #[]).toList = es.toList := by simp [leftOf]
  rw [e0]
  refine (List.perm_ext_iff_of_nodup (pairs_nodup hm.apart) (pairs_nodup hn)).2 fun p => ?_
  obtain ⟨k, v⟩ := p
  simp only [List.mem_map, Prod.mk.injEq]
  rw [← hf]
  constructor
  · rintro ⟨e, he, rfl, rfl⟩
    exact hm.gives e he
  · intro h
    obtain ⟨e, he, h1, h2⟩ := hm.all k v h
    exact ⟨e, he, h1, h2⟩

theorem rng_count (hm : MapOk d es clock f n) (l : List α) (hn : (l.map kf).Nodup) (hf : ∀ k v, f k = some v ↔ ∃ a ∈ l, kf a = k ∧ vf a = v) : n = l.length := by
  have := (rng_start hm l hn hf).length_eq
  rw [List.length_map, List.length_map, show (leftOf es #[]).toList = es.toList by simp [leftOf], Array.length_toList, hm.size] at this
  exact this

theorem left_perm (hb : (es.toList.map (·.born)).Nodup) {e : MapEntry} (he : e ∈ (leftOf es seen).toList) : (leftOf es seen).toList.Perm (e :: (leftOf es (seen.push e.born)).toList) := by
  have hsub : ((leftOf es seen).toList.map (·.born)).Nodup := by
    unfold leftOf
    rw [Array.toList_filter]
    exact (List.filter_sublist.map _).nodup hb
  have := outK_perm (key := MapEntry.born) hsub he
  have e2 : outK MapEntry.born e.born (leftOf es seen).toList = (leftOf es (seen.push e.born)).toList := by
    classical
    unfold outK leftOf
    rw [Array.toList_filter, Array.toList_filter, List.filter_filter]
    apply List.filter_congr
    intro x _
    rw [contains_push]
    by_cases h : x.born = e.born <;> simp [h]
  rw [e2] at this
  exact this

theorem rng_next (hb : (es.toList.map (·.born)).Nodup) (h : RngL es seen kf vf todo) {e : MapEntry} (he : e ∈ (leftOf es seen).toList) :
    ∃ a todo', todo.Perm (a :: todo') ∧ e.key = kf a ∧ e.val = vf a ∧ RngL es (seen.push e.born) kf vf todo' := by
  unfold RngL at h
  have h1 := ((left_perm hb he).map fun e => (e.key, e.val)).symm.trans h
  rw [List.map_cons] at h1
  have hin : (e.key, e.val) ∈ todo.map fun a => (kf a, vf a) := h1.subset (List.mem_cons_self ..)
  obtain ⟨a, ha, hp⟩ := List.mem_map.1 hin
  obtain ⟨s, t, rfl⟩ := List.append_of_mem ha
  have hpm : (s ++ a :: t).Perm (a :: (s ++ t)) := List.perm_middle
  refine ⟨a, s ++ t, hpm, (congrArg Prod.fst hp).symm, (congrArg Prod.snd hp).symm, ?_⟩
  have h2 := h1.trans (hpm.map fun a => (kf a, vf a))
  rw [List.map_cons, hp] at h2
  exact h2.cons_inv

theorem rng_end (h : RngL es seen kf vf todo) (h0 : (leftOf es seen).size = 0) : todo = [] := by
  have := h.length_eq
  simp only [List.length_map, Array.length_toList, h0] at this
  exact List.eq_nil_of_length_eq_zero this.symm
end

theorem secF_iff (l : List Sec) (hn : (l.map Sec.k).Nodup) (k v : Value) : secF l k = some v ↔ ∃ a ∈ l, Value.int .i64 a.k = k ∧ a.v = v := by
  unfold secF
  split
  · rename_i x
    constructor
    · intro h
      obtain ⟨a, ha, rfl⟩ := Option.map_eq_some_iff.1 h
      obtain ⟨h1, h2⟩ := getK_some ha
      exact ⟨a, h1, by rw [h2], rfl⟩
    · rintro ⟨a, ha, hk, rfl⟩
      have hk : a.k = x := by simpa using hk
      rw [← hk, getK_mem hn ha]
      rfl
  · rename_i hx
    constructor
    · intro h; cases h
    · rintro ⟨a, _, hk, _⟩
      exact absurd hk.symm (hx a.k)
theorem nmF_iff (X : List Nm) (hn : (X.map Nm.s).Nodup) (k v : Value) : nmF X k = some v ↔ ∃ a ∈ X, Value.string a.s = k ∧ Value.map (some a.b) = v := by
  unfold nmF
  split
  · rename_i x
    constructor
    · intro h
      obtain ⟨a, ha, rfl⟩ := Option.map_eq_some_iff.1 h
      obtain ⟨h1, h2⟩ := getK_some ha
      exact ⟨a, h1, by rw [h2], rfl⟩
    · rintro ⟨a, ha, hk, rfl⟩
      have hk : a.s = x := by simpa using hk
      rw [← hk, getK_mem hn ha]
      rfl
  · rename_i hx
    constructor
    · intro h; cases h
    · rintro ⟨a, _, hk, _⟩
      exact absurd hk.symm (hx a.s)
theorem sec_keys {l : List Sec} (h : (l.map Sec.k).Nodup) : (l.map fun a => Value.int .i64 a.k).Nodup := by
  have : (l.map fun a => Value.int .i64 a.k) = (l.map Sec.k).map (Value.int .i64) := by rw [List.map_map]; rfl
  rw [this]
  exact List.Pairwise.map _ (fun a b hab e => hab (by simpa using e)) h
theorem nm_keys {X : List Nm} (h : (X.map Nm.s).Nodup) : (X.map fun a => Value.string a.s).Nodup := by
  have : (X.map fun a => Value.string a.s) = (X.map Nm.s).map Value.string := by rw [List.map_map]; rfl
  rw [this]
  exact List.Pairwise.map _ (fun a b hab e => hab (by simpa using e)) h

/-! ### sets of numbers as maps -/
noncomputable def inF (E : List Int) : Value → Option Value
  | .int .i64 k => by classical exact if k ∈ E then some (.bool true) else none
  | _ => none
theorem inF_nil : inF [] = fun _ => none := by
  funext x
  unfold inF
  split <;> simp
theorem inF_put (E : List Int) (k : Int) : updV (inF E) (.int .i64 k) (.bool true) = inF (k :: E) := by
  funext x
  by_cases hx : x = .int .i64 k
  · subst hx
    rw [updV_same]
    simp [inF]
  · rw [updV_other _ _ hx]
    unfold inF
    split
    · rename_i j
      have : j ≠ k := fun e => hx (by rw [e])
      simp [this]
    · rfl
theorem inF_congr {E E' : List Int} (h : ∀ k, k ∈ E ↔ k ∈ E') : inF E = inF E' := by
  funext x
  unfold inF
  split <;> simp [h]
/-- Each once. -/
noncomputable def dd : List Int → List Int
  | [] => []
  | k :: E => by classical exact if k ∈ E then dd E else k :: dd E
theorem mem_dd {k : Int} : ∀ {E : List Int}, k ∈ dd E ↔ k ∈ E
  | [] => by simp [dd]
  | j :: E => by
    classical
    unfold dd
    split
    · rename_i h
      rw [mem_dd, List.mem_cons]
      constructor
      · exact .inr
      · rintro (rfl | h1)
        · exact h
        · exact h1
    · rw [List.mem_cons, mem_dd, List.mem_cons]
theorem dd_nodup : ∀ E : List Int, (dd E).Nodup
  | [] => by simp [dd]
  | j :: E => by
    classical
    unfold dd
    split
    · exact dd_nodup E
    · rename_i h
      rw [List.nodup_cons, mem_dd]
      exact ⟨h, dd_nodup E⟩
theorem dd_len_le : ∀ E : List Int, (dd E).length ≤ E.length
  | [] => by simp [dd]
  | j :: E => by
    classical
    unfold dd
    have := dd_len_le E
    split
    · simp; omega
    · simp; omega
theorem dd_congr {E E' : List Int} (h : ∀ k, k ∈ E ↔ k ∈ E') : (dd E).Perm (dd E') :=
  (List.perm_ext_iff_of_nodup (dd_nodup E) (dd_nodup E')).2 fun k => by rw [mem_dd, mem_dd, h]
theorem inF_iff (E : List Int) (k v : Value) : inF E k = some v ↔ ∃ a ∈ dd E, Value.int .i64 a = k ∧ Value.bool true = v := by
  unfold inF
  split
  · rename_i x
    constructor
    · intro h
      split at h
      · rename_i hx
        exact ⟨x, mem_dd.2 hx, rfl, by simpa using h⟩
      · cases h
    · rintro ⟨a, ha, hk, rfl⟩
      have hk : a = x := by simpa using hk
      subst hk
      rw [if_pos (mem_dd.1 ha)]
  · rename_i hx
    constructor
    · intro h; cases h
    · rintro ⟨a, _, hk, _⟩
      exact absurd hk.symm (hx a)
theorem dd_keys (E : List Int) : ((dd E).map (Value.int .i64)).Nodup :=
  List.Pairwise.map _ (fun a b hab e => hab (by simpa using e)) (dd_nodup E)
theorem inF_count {es : Array MapEntry} {clock n : Nat} {d : TypeDesc} {E : List Int} (hm : MapOk d es clock (inF E) n) : n = (dd E).length :=
  rng_count (vf := fun _ => .bool true) hm (dd E) (dd_keys E) (inF_iff E)
theorem sat_inF {W w : World} {b : Nat} {d : TypeDesc} {E : List Int} {n : Nat} {L : List Atom} (hs : Sat W w (mapA b d (inF E) n :: L)) : n = (dd E).length := by
  obtain ⟨o, ho, es, clock, rfl, h⟩ := hs.head
  exact inF_count h
end Go.Proofs.Ytekbbpfnkbanjaa.Ch
