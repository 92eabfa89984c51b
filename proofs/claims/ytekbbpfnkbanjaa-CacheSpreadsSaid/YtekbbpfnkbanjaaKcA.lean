
/-
  A cache in memory: a map of names to maps of sectors; what is cached, as a list.
-/
import Derived.Test.YtekbbpfnkbanjaaMS
import Derived.Test.YtekbbpfnkbanjaaMA
namespace Go.Proofs.Ytekbbpfnkbanjaa.Ch
set_option linter.unusedSimpArgs false
open Go Go.RowKit Go.Sl
set_option linter.unusedVariables false

/-! ### lists by a key -/
section
variable {α κ : Type} (key : α → κ)
noncomputable def outK (k : κ) (l : List α) : List α := by classical exact l.filter (fun a => decide (key a ≠ k))
noncomputable def getK (k : κ) (l : List α) : Option α := by classical exact l.find? (fun a => decide (key a = k))
variable {key}
theorem mem_outK {k : κ} {l : List α} {a : α} : a ∈ outK key k l ↔ a ∈ l ∧ key a ≠ k := by
  classical
  simp [outK]
theorem getK_some {k : κ} {l : List α} {a : α} (h : getK key k l = some a) : a ∈ l ∧ key a = k := by
  classical
  unfold getK at h
  exact ⟨List.mem_of_find?_eq_some h, by simpa using List.find?_some h⟩
theorem getK_none {k : κ} {l : List α} : getK key k l = none ↔ ∀ a ∈ l, key a ≠ k := by
  classical
  simp [getK]
theorem getK_put (a : α) (l : List α) (x : κ) [Decidable (x = key a)] : getK key x (a :: outK key (key a) l) = if x = key a then some a else getK key x l := by
  classical
  unfold getK outK
  split
  · rename_i h; subst h; simp
  · rename_i h
    rw [List.find?_cons_of_neg (by simpa using fun e => h e.symm), List.find?_filter]
    congr 1
    funext b
    by_cases hb : key b = x
    · subst hb; simp [h]
    · simp [hb]
theorem outK_nodup {k : κ} {l : List α} (h : (l.map key).Nodup) : ((outK key k l).map key).Nodup := by
  classical
  unfold outK
  exact (List.filter_sublist.map key).nodup h
theorem put_nodup {a : α} {l : List α} (h : (l.map key).Nodup) : ((a :: outK key (key a) l).map key).Nodup := by
  rw [List.map_cons, List.nodup_cons]
  refine ⟨fun hm => ?_, outK_nodup h⟩
  obtain ⟨b, hb, he⟩ := List.mem_map.1 hm
  exact (mem_outK.1 hb).2 he
theorem outK_none {k : κ} {l : List α} (h : getK key k l = none) : outK key k l = l := by
  classical
  unfold outK
  rw [List.filter_eq_self]
  intro a ha
  simpa using getK_none.1 h a ha
theorem outK_perm {a : α} : ∀ {l : List α}, (l.map key).Nodup → a ∈ l → l.Perm (a :: outK key (key a) l)
  | [], _, h => by cases h
  | b :: l, hn, h => by
    classical
    rw [List.map_cons, List.nodup_cons] at hn
    rcases List.mem_cons.1 h with rfl | h
    · have : outK key (key a) (a :: l) = l := by
        unfold outK
        rw [List.filter_cons_of_neg (by simp), List.filter_eq_self]
        intro c hc
        simp only [decide_eq_true_eq]
        exact fun e => hn.1 (List.mem_map.2 ⟨c, hc, e⟩)
      rw [this]
    · have hne : key b ≠ key a := fun e => hn.1 (List.mem_map.2 ⟨a, h, e.symm⟩)
      have : outK key (key a) (b :: l) = b :: outK key (key a) l := by
        unfold outK
        rw [List.filter_cons_of_pos (by simpa using hne)]
      rw [this]
      exact ((outK_perm hn.2 h).cons b).trans (.swap ..)
theorem getK_mem {a : α} {l : List α} (hn : (l.map key).Nodup) (h : a ∈ l) : getK key (key a) l = some a := by
  cases hg : getK key (key a) l with
  | none => exact absurd rfl (getK_none.1 hg a h)
  | some b =>
    obtain ⟨hb, he⟩ := getK_some hg
    have hp := outK_perm hn h
    have := hp.subset hb
    rcases List.mem_cons.1 this with rfl | hm
    · rfl
    · exact absurd he (mem_outK.1 hm).2
theorem len_put {a : α} {l : List α} (hn : (l.map key).Nodup) : (a :: outK key (key a) l).length = if (getK key (key a) l).isSome then l.length else l.length + 1 := by
  cases hg : getK key (key a) l with
  | none => rw [outK_none hg]; simp
  | some b =>
    obtain ⟨hb, he⟩ := getK_some hg
    have := (outK_perm hn hb).length_eq
    rw [he] at this
    simpa using this.symm
theorem outK_map {β : Type} {key' : β → κ} (f : α → β) (hf : ∀ a, key' (f a) = key a) (k : κ) (l : List α) : outK key' k (l.map f) = (outK key k l).map f := by
  classical
  unfold outK
  rw [List.filter_map]
  congr 1
  apply List.filter_congr
  intro a _
  simp [hf]
theorem getK_map {β : Type} {key' : β → κ} (f : α → β) (hf : ∀ a, key' (f a) = key a) (k : κ) (l : List α) : getK key' k (l.map f) = (getK key k l).map f := by
  classical
  unfold getK
  rw [List.find?_map]
  congr 1
  congr 1
  funext a
  simp [hf]
end

/-- A sector that is cached: its number, its bytes, the slice that holds them. -/
structure Sec where
  k : Int
  d : List UInt8
  v : Value
  A : List Atom
/-- A name that is cached, its map. -/
structure Nm where
  s : ByteArray
  b : Nat
  l : List Sec

noncomputable def secF (l : List Sec) : Value → Option Value
  | .int .i64 k => (getK Sec.k k l).map (·.v)
  | _ => none
noncomputable def nmF (X : List Nm) : Value → Option Value
  | .string s => (getK Nm.s s X).map (fun n => .map (some n.b))
  | _ => none
theorem secF_nil : secF [] = fun _ => none := by
  funext x
  unfold secF
  split <;> simp [getK]
theorem nmF_nil : nmF [] = fun _ => none := by
  funext x
  unfold nmF
  split <;> simp [getK]
theorem secF_put (l : List Sec) (s : Sec) : updV (secF l) (.int .i64 s.k) s.v = secF (s :: outK Sec.k s.k l) := by
  classical
  funext x
  by_cases hx : x = .int .i64 s.k
  · subst hx
    rw [updV_same]
    simp only [secF, getK_put, if_true, Option.map_some]
  · rw [updV_other _ _ hx]
    unfold secF
    split
    · rename_i k
      rw [getK_put, if_neg (fun e => hx (by rw [e]))]
    · rfl
theorem nmF_put (X : List Nm) (n : Nm) : updV (nmF X) (.string n.s) (.map (some n.b)) = nmF (n :: outK Nm.s n.s X) := by
  classical
  funext x
  by_cases hx : x = .string n.s
  · subst hx
    rw [updV_same]
    simp only [nmF, getK_put, if_true, Option.map_some]
  · rw [updV_other _ _ hx]
    unfold nmF
    split
    · rename_i k
      rw [getK_put, if_neg (fun e => hx (by rw [e]))]
    · rfl
/-- Where the map of a name stays, the names' map does. -/
theorem nmF_same {X : List Nm} {n : Nm} (hn : getK Nm.s n.s X = some n) (l : List Sec) : nmF (⟨n.s, n.b, l⟩ :: outK Nm.s n.s X) = nmF X := by
  rw [show nmF (⟨n.s, n.b, l⟩ :: outK Nm.s n.s X) = nmF ((⟨n.s, n.b, l⟩ : Nm) :: outK Nm.s (⟨n.s, n.b, l⟩ : Nm).s X) from rfl, ← nmF_put]
  funext x
  by_cases hx : x = .string n.s
  · subst hx
    rw [updV_same]
    simp [nmF, hn]
  · rw [updV_other _ _ hx]

def secAt (l : List Sec) : List Atom := l.flatMap (·.A)
theorem secAt_cons (s : Sec) (l : List Sec) : secAt (s :: l) = s.A ++ secAt l := rfl
theorem secAt_nil : secAt [] = [] := rfl
noncomputable def nmAt (n : Nm) : List Atom := mapA n.b (.int .i64) (secF n.l) n.l.length :: secAt n.l
noncomputable def nmsAt (X : List Nm) : List Atom := X.flatMap nmAt
theorem nmsAt_cons (n : Nm) (l : List Nm) : nmsAt (n :: l) = nmAt n ++ nmsAt l := rfl
theorem nmsAt_nil : nmsAt [] = [] := rfl

structure SecOk (s : Sec) : Prop where
  row : RowA 5 1 s.v s.d.length (bts s.d) s.A
  len : s.d.length = 16
  lo : 0 ≤ s.k
  hi : s.k < 1000000
structure NmOk (n : Nm) : Prop where
  apart : (n.l.map Sec.k).Nodup
  secs : ∀ s ∈ n.l, SecOk s
structure CaOk (X : List Nm) : Prop where
  apart : (X.map Nm.s).Nodup
  nms : ∀ n ∈ X, NmOk n

/-- What is cached. -/
abbrev Mo := List (ByteArray × List (Int × List UInt8))
def Sec.abs (s : Sec) : Int × List UInt8 := (s.k, s.d)
def Nm.abs (n : Nm) : ByteArray × List (Int × List UInt8) := (n.s, n.l.map Sec.abs)
noncomputable def Mo.get (m : Mo) (s : ByteArray) : List (Int × List UInt8) := ((getK Prod.fst s m).map Prod.snd).getD []
noncomputable def Mo.put (m : Mo) (s : ByteArray) (k : Int) (d : List UInt8) : Mo := (s, (k, d) :: outK Prod.fst k (m.get s)) :: outK Prod.fst s m

/-- A cache. -/
def CaA (bc : Nat) (m : Mo) (A : List Atom) : Prop := ∃ bm X, A = cellsA bc #[.map (some bm)] 42 :: mapA bm .string (nmF X) X.length :: nmsAt X ∧ CaOk X ∧ m = X.map Nm.abs

theorem cnt_flatMap_perm {α : Type} (f : α → List Atom) {l m : List α} (h : l.Perm m) (x : Atom) : cnt x (l.flatMap f) = cnt x (m.flatMap f) := by
  classical
  simp only [cnt]
  exact (h.flatMap_right f).count_eq x
theorem CaOk.cnt {X : List Nm} (h : CaOk X) {n : Nm} (hn : n ∈ X) (x : Atom) : Sl.cnt x (nmsAt X) = Sl.cnt x (nmAt n) + Sl.cnt x (nmsAt (outK Nm.s n.s X)) := by
  rw [nmsAt, cnt_flatMap_perm nmAt (outK_perm h.apart hn) x]
  show Sl.cnt x (nmAt n ++ nmsAt (outK Nm.s n.s X)) = _
  rw [cnt_append]
theorem NmOk.cnt {n : Nm} (h : NmOk n) {s : Sec} (hs : s ∈ n.l) (x : Atom) : Sl.cnt x (secAt n.l) = Sl.cnt x s.A + Sl.cnt x (secAt (outK Sec.k s.k n.l)) := by
  rw [secAt, cnt_flatMap_perm (·.A) (outK_perm h.apart hs) x]
  show Sl.cnt x (s.A ++ secAt (outK Sec.k s.k n.l)) = _
  rw [cnt_append]
theorem secAt_out_le (l : List Sec) (k : Int) (x : Atom) : Sl.cnt x (secAt (outK Sec.k k l)) ≤ Sl.cnt x (secAt l) := by
  classical
  induction l with
  | nil => simp [outK]
  | cons s l ih =>
    unfold outK at ih ⊢
    by_cases hs : s.k = k
    · rw [List.filter_cons_of_neg (by simpa using hs)]
      rw [secAt_cons, cnt_append]; (try rw [secAt_cons, cnt_append])
      omega
    · rw [List.filter_cons_of_pos (by simpa using hs)]
      rw [secAt_cons, cnt_append]; (try rw [secAt_cons, cnt_append])
      omega
theorem nmsAt_out_le (X : List Nm) (k : ByteArray) (x : Atom) : Sl.cnt x (nmsAt (outK Nm.s k X)) ≤ Sl.cnt x (nmsAt X) := by
  classical
  induction X with
  | nil => simp [outK]
  | cons s l ih =>
    unfold outK at ih ⊢
    by_cases hs : s.s = k
    · rw [List.filter_cons_of_neg (by simpa using hs)]
      rw [nmsAt_cons, cnt_append]; (try rw [nmsAt_cons, cnt_append])
      omega
    · rw [List.filter_cons_of_pos (by simpa using hs)]
      rw [nmsAt_cons, cnt_append]; (try rw [nmsAt_cons, cnt_append])
      omega

theorem Sec.abs_fst (s : Sec) : s.abs.1 = s.k := rfl
theorem Nm.abs_fst (n : Nm) : n.abs.1 = n.s := rfl
theorem get_abs (X : List Nm) (s : ByteArray) : Mo.get (X.map Nm.abs) s = (((getK Nm.s s X).map (·.l)).getD []).map Sec.abs := by
  unfold Mo.get
  rw [getK_map Nm.abs Nm.abs_fst]
  cases getK Nm.s s X <;> rfl
theorem put_abs (X : List Nm) (s : ByteArray) (b : Nat) (x : Sec) :
    (((⟨s, b, x :: outK Sec.k x.k (((getK Nm.s s X).map (·.l)).getD [])⟩ : Nm) :: outK Nm.s s X).map Nm.abs) = Mo.put (X.map Nm.abs) s x.k x.d := by
  unfold Mo.put
  rw [get_abs, outK_map Nm.abs Nm.abs_fst, outK_map Sec.abs Sec.abs_fst]
  rfl
end Go.Proofs.Ytekbbpfnkbanjaa.Ch
