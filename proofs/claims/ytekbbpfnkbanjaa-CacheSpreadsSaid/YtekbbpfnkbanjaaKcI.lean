
/-
  What is cached, as a list: laws of put, get, counts.
-/
import Derived.Test.YtekbbpfnkbanjaaKcH
namespace Go.Proofs.Ytekbbpfnkbanjaa.Ch
set_option linter.unusedSimpArgs false
open Go Go.RowKit Go.Sl
set_option linter.unusedVariables false

structure MoOk (m : Mo) : Prop where
  apart : (m.map Prod.fst).Nodup
  each : ∀ p ∈ m, (p.2.map Prod.fst).Nodup
  range : ∀ p ∈ m, ∀ q ∈ p.2, 0 ≤ q.1 ∧ q.1 < 1000000 ∧ q.2.length = 16
theorem CaA.ok {bc : Nat} {m : Mo} {A : List Atom} (h : CaA bc m A) : MoOk m := by
  obtain ⟨bm, X, rfl, hok, rfl⟩ := h
  refine ⟨?_, fun p hp => ?_, fun p hp q hq => ?_⟩
  · rw [List.map_map]
    exact hok.apart
  · obtain ⟨n, hn, rfl⟩ := List.mem_map.1 hp
    show ((n.l.map Sec.abs).map Prod.fst).Nodup
    rw [abs_keys]
    exact (hok.nms n hn).apart
  · obtain ⟨n, hn, rfl⟩ := List.mem_map.1 hp
    obtain ⟨s, hs, rfl⟩ := List.mem_map.1 hq
    have := (hok.nms n hn).secs s hs
    exact ⟨this.lo, this.hi, this.len⟩
theorem MoOk.get_mem {m : Mo} (h : MoOk m) {s : ByteArray} {p : Int × List UInt8} (hp : p ∈ m.get s) : ∃ q ∈ m, q.1 = s ∧ p ∈ q.2 ∧ m.get s = q.2 := by
  unfold Mo.get at hp ⊢
  cases hg : getK Prod.fst s m with
  | none => rw [hg] at hp; simp at hp
  | some q =>
    obtain ⟨h1, h2⟩ := getK_some hg
    rw [hg] at hp
    exact ⟨q, h1, h2, by simpa using hp, by simp⟩
theorem MoOk.get_nodup {m : Mo} (h : MoOk m) (s : ByteArray) : ((m.get s).map Prod.fst).Nodup := by
  unfold Mo.get
  cases hg : getK Prod.fst s m with
  | none => simp
  | some q => simpa using h.each q (getK_some hg).1
theorem MoOk.key_range {m : Mo} (h : MoOk m) {s : ByteArray} {k : Int} (hk : k ∈ m.keys s) : 0 ≤ k ∧ k < 1000000 := by
  obtain ⟨p, hp, rfl⟩ := List.mem_map.1 hk
  obtain ⟨q, hq, _, h2, _⟩ := h.get_mem hp
  exact ⟨(h.range q hq p h2).1, (h.range q hq p h2).2.1⟩

theorem get_put_same (m : Mo) (s : ByteArray) (k : Int) (d : List UInt8) : (m.put s k d).get s = (k, d) :: outK Prod.fst k (m.get s) := by
  classical
  unfold Mo.put
  rw [Mo.get, getK_put (key := Prod.fst) ((s, (k, d) :: outK Prod.fst k (m.get s)) : ByteArray × List (Int × List UInt8)) m s, if_pos rfl]
  rfl
theorem get_put_other (m : Mo) {s t : ByteArray} (h : t ≠ s) (k : Int) (d : List UInt8) : (m.put s k d).get t = m.get t := by
  classical
  unfold Mo.put
  rw [Mo.get, getK_put (key := Prod.fst) ((s, (k, d) :: outK Prod.fst k (m.get s)) : ByteArray × List (Int × List UInt8)) m t, if_neg h]
  rfl
theorem keys_put_same (m : Mo) (s : ByteArray) (k : Int) (d : List UInt8) (x : Int) : x ∈ (m.put s k d).keys s ↔ x = k ∨ x ∈ m.keys s := by
  unfold Mo.keys
  rw [get_put_same, List.map_cons, List.mem_cons]
  constructor
  · rintro (h | h)
    · exact .inl h
    · obtain ⟨p, hp, rfl⟩ := List.mem_map.1 h
      exact .inr (List.mem_map.2 ⟨p, (mem_outK.1 hp).1, rfl⟩)
  · rintro (h | h)
    · exact .inl h
    · by_cases hx : x = k
      · exact .inl hx
      · obtain ⟨p, hp, rfl⟩ := List.mem_map.1 h
        exact .inr (List.mem_map.2 ⟨p, mem_outK.2 ⟨hp, hx⟩, rfl⟩)
theorem keys_put_other (m : Mo) {s t : ByteArray} (h : t ≠ s) (k : Int) (d : List UInt8) : (m.put s k d).keys t = m.keys t := by
  unfold Mo.keys
  rw [get_put_other m h]
theorem outK_len_le {α κ : Type} {key : α → κ} (k : κ) (l : List α) : (outK key k l).length ≤ l.length := by
  classical
  unfold outK
  exact List.length_filter_le _ _

theorem sum_out (f : ByteArray × List (Int × List UInt8) → Nat) {m : Mo} (h : (m.map Prod.fst).Nodup) (s : ByteArray) : (m.map f).sum = (match getK Prod.fst s m with | some p => f p | none => 0) + ((outK Prod.fst s m).map f).sum := by
  cases hg : getK Prod.fst s m with
  | none => rw [outK_none hg]; simp
  | some p =>
    obtain ⟨h1, h2⟩ := getK_some hg
    have := sum_perm f (outK_perm h h1)
    rw [this, h2]
    simp
theorem count_out {m : Mo} (h : MoOk m) (s : ByteArray) : m.count = (m.get s).length + Mo.count (outK Prod.fst s m) := by
  have := sum_out (fun x => x.2.length) h.apart s
  unfold Mo.count Mo.get
  rw [this]
  cases getK Prod.fst s m <;> simp
theorem spread_out {m : Mo} (h : MoOk m) (s : ByteArray) : m.spread = (dd (extN (m.keys s))).length + Mo.spread (outK Prod.fst s m) := by
  have := sum_out (fun x => (dd (extN (x.2.map Prod.fst))).length) h.apart s
  unfold Mo.spread Mo.keys Mo.get
  rw [this]
  cases getK Prod.fst s m <;> simp [extN, dd]
theorem MoOk.out {m : Mo} (h : MoOk m) (s : ByteArray) : MoOk (outK Prod.fst s m) :=
  ⟨outK_nodup h.apart, fun p hp => h.each p (mem_outK.1 hp).1, fun p hp => h.range p (mem_outK.1 hp).1⟩
theorem get_out_other {m : Mo} {s t : ByteArray} (h : t ≠ s) : Mo.get (outK Prod.fst s m) t = m.get t := by
  classical
  unfold Mo.get outK getK
  congr 2
  rw [List.find?_filter]
  congr 1
  funext p
  by_cases hp : p.1 = t
  · simp [hp, h]
  · simp [hp]
theorem count_put {m : Mo} (h : MoOk m) (s : ByteArray) (k : Int) (d : List UInt8) : (m.put s k d).count ≤ m.count + 1 := by
  rw [count_out h s]
  unfold Mo.put
  have := outK_len_le (key := Prod.fst) k (m.get s)
  simp only [Mo.count, List.map_cons, List.sum_cons, List.length_cons]
  omega
theorem put_names {m : Mo} {s : ByteArray} {k : Int} {d : List UInt8} {p : ByteArray × List (Int × List UInt8)} (hp : p ∈ m.put s k d) : p.1 = s ∨ p ∈ m := by
  unfold Mo.put at hp
  rcases List.mem_cons.1 hp with rfl | hp
  · exact .inl rfl
  · exact .inr (mem_outK.1 hp).1

/-- All that is cached is of two names. -/
theorem two_names {m : Mo} (h : MoOk m) {a b : ByteArray} (hab : b ≠ a) (hn : ∀ p ∈ m, p.1 = a ∨ p.1 = b) :
    m.count = (m.get a).length + (m.get b).length ∧ m.spread = (dd (extN (m.keys a))).length + (dd (extN (m.keys b))).length := by
  have he : outK Prod.fst b (outK Prod.fst a m) = [] := by
    apply List.eq_nil_iff_forall_not_mem.2
    intro p hp
    obtain ⟨h1, h2⟩ := mem_outK.1 hp
    obtain ⟨h3, h4⟩ := mem_outK.1 h1
    rcases hn p h3 with h | h
    · exact h4 h
    · exact h2 h
  have k2 : Mo.keys (outK Prod.fst a m) b = m.keys b := by unfold Mo.keys; rw [get_out_other hab]
  constructor
  · rw [count_out h a, count_out (h.out a) b, he, get_out_other hab]
    simp [Mo.count]
  · rw [spread_out h a, spread_out (h.out a) b, he, k2]
    simp [Mo.spread]
theorem no_name {m : Mo} {s : ByteArray} (h : ∀ p ∈ m, p.1 ≠ s) : m.get s = [] := by
  unfold Mo.get
  rw [getK_none.2 h]
  rfl

theorem sect_sum {α : Type} (f : α → Int) [∀ x : Int, DecidablePred fun p => f p = x] {ss : List Int} (hss : ss.Nodup) : ∀ (g : List α), (∀ p ∈ g, f p ∈ ss) → (ss.map fun x => (g.filter fun p => decide (f p = x)).length).sum = g.length
  | [], _ => by
    simp
    induction ss with
    | nil => rfl
    | cons x ss ih =>
      rw [List.nodup_cons] at hss
      simpa using ih hss.2
  | p :: g, h => by
    have ih := sect_sum f hss g (fun q hq => h q (List.mem_cons_of_mem _ hq))
    have hp := h p (List.mem_cons_self ..)
    have key : ∀ l : List Int, l.Nodup → (l.map fun x => ((p :: g).filter fun p => decide (f p = x)).length).sum = (l.map fun x => (g.filter fun p => decide (f p = x)).length).sum + if f p ∈ l then 1 else 0 := by
      intro l
      induction l with
      | nil => simp
      | cons x l ihl =>
        intro hl
        rw [List.nodup_cons] at hl
        simp only [List.map_cons, List.sum_cons]
        rw [ihl hl.2]
        by_cases hx : f p = x
        · subst hx
          simp [hl.1]
          omega
        · simp only [List.filter_cons_of_neg (p := fun p => decide (f p = x)) (a := p) (l := g) (by simpa using hx), List.mem_cons, hx, false_or]
          omega
    rw [key ss hss, ih, if_pos hp]
    rfl
theorem sect_total {m : Mo} {s : ByteArray} {ss : List Int} (h1 : ss.Nodup) (h2 : ∀ k, k ∈ ss ↔ k ∈ extN (m.keys s)) : (ss.map fun x => (m.sect s x).length).sum = (m.get s).length := by
  classical
  have := sect_sum (fun p : Int × List UInt8 => p.1 / 8) h1 (m.get s) (fun p hp => (h2 _).2 (List.mem_map.2 ⟨p.1, List.mem_map.2 ⟨p, hp, rfl⟩, rfl⟩))
  rw [← this]
  unfold Mo.sect
  congr 1
theorem dd_len {E F : List Int} (h : ∀ x, x ∈ E ↔ x ∈ F) (hF : F.Nodup) : (dd E).length = F.length :=
  ((List.perm_ext_iff_of_nodup (dd_nodup E) hF).2 fun k => by rw [mem_dd, h]).length_eq
end Go.Proofs.Ytekbbpfnkbanjaa.Ch
