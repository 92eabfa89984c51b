/-
  A region that draws its order, walked ONCE, in an order of the prover's choice: operations that only look (and calls that leave all that was there as it is) may float; those that act are met one after another.
-/
import Derived.Test.YtdkhgkkdnjejmaaSl
import Derived.BigQuiet
namespace Go.Sl
set_option linter.unusedVariables false
set_option linter.unusedSimpArgs false
open Go Go.RowKit

def Ext (w w' : World) : Prop := Below w.heap.size w w'
theorem Ext.refl (w : World) : Ext w w := Below.refl _ w
theorem Ext.trans {a b c : World} (h : Ext a b) (k : Ext b c) : Ext a c := Below.trans h (Below.mono k h.size)
theorem Ext.drew (w : World) : Ext w w.drew := Below.drew (Below.refl _ w)
theorem Ext.alloc (w : World) (o : Obj) : Ext w (w.alloc o) := Below.alloc (Below.refl _ w) (Nat.le_refl _) o

/-- The very same world. -/
@[reducible] def One (w w' : World) : Prop := w' = w

/-- In world w the operation leaves v, and a world that X lets. -/
def quietE (P : Program) (X : World → World → Prop) (o : Oper) (a : Act) (w : World) (v : Value) : Prop :=
  match (execOp a.eval o).run P w with
  | .ok (.value u) w' => X w w' ∧ u = v
  | .ok .skip w' => X w w' ∧ v = undef
  | .ok (.enter f args) w' => Calls P f args w' fun e w'' => e = .returned v ∧ X w w''
  | _ => False

def YieldsE (P : Program) (X : World → World → Prop) (ops : Array Oper) (C : World → Prop) (o : Oper) (v : Value) (a : Act) : Prop :=
  (Region.wanted o (yielded ops a.tmps) = true ∧ ∀ w, C w → quietE P X o a w v) ∨
  (Region.wanted o (yielded ops a.tmps) = false ∧ v = undef)

def dep (ops : Array Oper) (i k : Nat) : Bool := match ops[i]? with | some o => o.after.any fun e => Region.binds .any e && e.on == k | none => false

def blkStep (k : Nat) (s : Nat × Nat) (o : Oper) : Nat × Nat :=
  (s.1 + 1, if s.1 == k || o.after.any (fun e => Region.binds .any e && s.2.testBit e.on) then s.2 ||| 2 ^ s.1 else s.2)
/-- Those that can't come up ahead of k. -/
def blkMask (ops : Array Oper) (k : Nat) : Nat := (ops.toList.foldl (blkStep k) (0, 0)).2

section
variable {P : Program} {ops : Array Oper} {Q : Exit → Act → World → Prop} {S : World → Prop} {E St Pu N : Nat → Bool} {X : World → World → Prop}

/-- The region, walked in the order of the list: at each operation that acts S is shown anew. -/
def Can (P : Program) (X : World → World → Prop) (ops : Array Oper) (Q : Exit → Act → World → Prop) (S : World → Prop) (E St Pu N : Nat → Bool) : List Nat → Act → World → Prop
  | [], a, w => ∀ w2, X w w2 → Q .normal a w2
  | k :: c, a, w => match ops[k]? with
    | none => False
    | some o => if E k then ∀ w2, X w w2 → wpOp P ops Q k (fun a' w' => (N k = true → S w') ∧ Can P X ops Q S E St Pu N c a' w') a w2
      else ∃ v, YieldsE P X ops (if St k then (fun w => Pu k = true ∨ S w) else X w) o v a ∧ Can P X ops Q S E St Pu N c (a.put o.dst v) w

/-- What is asked of two operations, k ahead of i in the list. -/
def pairCore (ops : Array Oper) (E St : Nat → Bool) (k i : Nat) : Bool :=
  !(dep ops k i) && (k != i) &&
  (if E k then (blkMask ops k).testBit i
   else (dep ops i k || match ops[k]?, ops[i]? with | some x, some y => x.apart ops y | _, _ => false) && (St k || !(E i) || (blkMask ops k).testBit i))
/-- Behind which of those that act S must be shown anew. -/
def pairN (ops : Array Oper) (E St Pu N : Nat → Bool) (k i : Nat) : Bool :=
  (!(E k) || !(St i && !(Pu i)) || N k) && (!(St k && !(Pu k)) || !(E i) || N i || (blkMask ops k).testBit i)

def selfOk (ops : Array Oper) (k : Nat) : Bool := match ops[k]? with
  | some o => o.after.all fun e => !Region.binds .any e || (e.on != k && decide (e.on < ops.size))
  | none => false

theorem dep_iff {i k : Nat} : dep ops i k = true ↔ ∃ o, ops[i]? = some o ∧ ∃ e ∈ o.after, Region.binds .any e = true ∧ e.on = k := by
  unfold dep
  cases h : ops[i]? with
  | none => simp
  | some o =>
    rw [Array.any_eq_true']
    simp only [Bool.and_eq_true, beq_iff_eq, Option.some.injEq, exists_eq_left']

structure Good (ops : Array Oper) (E St Pu N : Nat → Bool) (r : List Nat) (listed : Array Bool) : Prop where
  size : listed.size = ops.size
  nodup : r.Nodup
  mem : ∀ i, i ∈ r ↔ i < ops.size ∧ listed.getD i true = false
  pair : r.Pairwise fun k i => pairCore ops E St k i = true ∧ pairN ops E St Pu N k i = true
  self : ∀ i ∈ r, selfOk ops i = true
  closed : ∀ j k, listed.getD j false = true → dep ops j k = true → listed.getD k false = true

theorem getD_ft {l : Array Bool} {i : Nat} (h : i < l.size) (d e : Bool) : l.getD i d = l.getD i e := by simp [h]

/-- While k has not come up, whatever waits for it, however far, can't. -/
theorem blk_unlisted {listed : Array Bool} (hsz : listed.size = ops.size) (hcl : ∀ j k, listed.getD j false = true → dep ops j k = true → listed.getD k false = true) {k : Nat} (hk : listed.getD k false = false) :
    ∀ (l : List Oper) (s : Nat × Nat), (∀ j, l[j]? = ops[s.1 + j]?) →
      (∀ i, s.2.testBit i = true → listed.getD i false = false ∧ (i = k ∨ ∃ j, dep ops i j = true ∧ listed.getD j false = false)) →
      ∀ i, (l.foldl (blkStep k) s).2.testBit i = true → listed.getD i false = false ∧ (i = k ∨ ∃ j, dep ops i j = true ∧ listed.getD j false = false)
  | [], s, _, h, i, hi => h i hi
  | o :: l, s, hl, h, i, hi => by
    refine blk_unlisted hsz hcl hk l (blkStep k s o) (fun j => ?_) (fun i hi => ?_) i hi
    · have := hl (j + 1)
      simpa [blkStep, Nat.add_assoc, Nat.add_comm 1 j] using this
    · have ho : ops[s.1]? = some o := by simpa using (hl 0).symm
      unfold blkStep at hi
      simp only at hi
      split at hi
      · rename_i hc
        rw [Nat.testBit_or, Bool.or_eq_true] at hi
        rcases hi with hi | hi
        · exact h i hi
        · rw [Nat.testBit_two_pow] at hi
          have hi : s.1 = i := by simpa using hi
          subst hi
          rw [Bool.or_eq_true] at hc
          rcases hc with hc | hc
          · have : s.1 = k := by simpa using hc
            rw [this]; exact ⟨hk, .inl rfl⟩
          · obtain ⟨e, he, hb⟩ := Array.any_eq_true'.1 hc
            rw [Bool.and_eq_true] at hb
            have hd : dep ops s.1 e.on = true := dep_iff.2 ⟨o, ho, e, he, hb.1, rfl⟩
            have hu := (h e.on hb.2).1
            refine ⟨?_, .inr ⟨e.on, hd, hu⟩⟩
            cases hx : listed.getD s.1 false with
            | false => rfl
            | true => rw [hcl _ _ hx hd] at hu; cases hu
      · exact h i hi

theorem blk_ready {r : List Nat} {listed : Array Bool} (g : Good ops E St Pu N r listed) {k i : Nat} (hk : k ∈ r) (hi : i ∈ Region.ready .any ops listed) (hb : (blkMask ops k).testBit i = true) : i = k := by
  obtain ⟨hk1, hk2⟩ := (g.mem k).1 hk
  rw [getD_ft (by rw [g.size]; exact hk1) true false] at hk2
  have := blk_unlisted g.size g.closed hk2 ops.toList (0, 0) (fun j => by simp) (fun i hi => by simp at hi) i hb
  rcases this.2 with h | ⟨j, h1, h2⟩
  · exact h
  · obtain ⟨o, ho, e, he, hbi, rfl⟩ := dep_iff.1 h1
    obtain ⟨_, o', ho', hall⟩ := mem_ready.1 hi
    rw [ho] at ho'
    cases ho'
    rw [hall e he hbi] at h2
    cases h2

theorem YieldsE.of_same {C : World → Prop} {o : Oper} {v : Value} {a a' : Act} (hy : YieldsE P X ops C o v a) (he : execOp a'.eval o = execOp a.eval o)
    (hw : Region.wanted o (yielded ops a'.tmps) = Region.wanted o (yielded ops a.tmps)) : YieldsE P X ops C o v a' := by
  unfold YieldsE quietE at *
  rw [he, hw]
  exact hy

theorem wpOp_putE {C : World → Prop} {j : Nat} {oi oj : Oper} {v : Value} (hj : ops[j]? = some oj) (hap : oi.apart ops oj = true)
    (hsi : ∀ cs b, oi.op ≠ .select cs b) (hsj : ∀ cs b, oj.op ≠ .select cs b)
    (hQ : ∀ c a a' w, Q (.panic c) a w → Q (.panic c) a' w) {K : Act → World → Prop} {a : Act} {w : World}
    (hy : YieldsE P X ops C oi v a) (h : wpOp P ops Q j K (a.put oi.dst v) w) :
    wpOp P ops Q j (fun a' w' => YieldsE P X ops C oi v a' ∧ K (a'.put oi.dst v) w') a w := by
  obtain ⟨h1, h2, h3⟩ := Oper.apart_spec hap
  have keep : ∀ (a : Act), YieldsE P X ops C oi v a → ∀ u, YieldsE P X ops C oi v (a.put oj.dst u) := fun a hy u =>
    hy.of_same (execOp_put oi hsi a oj.dst u h3) (wanted_put oi a oj.dst u h3)
  have keepD : ∀ d, YieldsE P X ops C oi v { a with defers := d :: a.defers } := fun d => hy.of_same rfl rfl
  unfold wpOp at *
  simp only [hj] at *
  rw [wanted_put oj a oi.dst v h1] at h
  split
  · rename_i hw
    simp only [hw, if_true] at h
    rcases h with h | ⟨hasks, hlets⟩
    case inr => exact .inr ⟨by unfold Oper.asks at *; rw [execOp_put oj hsj a oi.dst v h1] at hasks; exact hasks, hlets⟩
    refine .inl ?_
    unfold Oper.wp at *
    rw [execOp_put oj hsj a oi.dst v h1] at h
    generalize (execOp a.eval oj).run P w = r at *
    cases r with
    | ok n w' =>
      cases n <;> simp only [Oper.upon] at h ⊢
      case value u => exact ⟨keep a hy u, by rw [← Act.put_comm a v u h2]; exact h⟩
      case skip => exact ⟨keep a hy _, by rw [← Act.put_comm a v undef h2]; exact h⟩
      case defer d =>
        refine ⟨keep _ (keepD d) _, ?_⟩
        rw [← Act.put_comm _ v undef h2, ← Act.put_defers]
        exact h
      case enter f args =>
        refine Calls.mono h fun e w'' he => ?_
        cases e with
        | returned u => exact ⟨keep a hy u, by rw [← Act.put_comm a v u h2]; exact he⟩
        | panicked c => exact hQ _ _ _ _ he
        | outgrown => exact he
      case row row args => exact Rows.mono h fun u w'' he => ⟨keep a hy u, by rw [← Act.put_comm a v u h2]; exact he⟩
    | halt x w' =>
      cases x <;> simp only [Oper.upon] at h ⊢
      case panic u => exact hQ _ _ _ _ h
  · rename_i hw
    simp only [hw] at h
    exact ⟨keep a hy _, by rw [← Act.put_comm a v undef h2]; exact h⟩

/-- A quiet one that may come up ahead of other quiet ones. -/
theorem move_quiet (hsel : ∀ (j : Nat) (o : Oper) cs b, ops[j]? = some o → o.op ≠ .select cs b) {i : Nat} {oi : Oper} (hi : ops[i]? = some oi) (hEi : E i = false) {r2 : List Nat} {w : World} :
    ∀ (r1 : List Nat) (a : Act), (∀ k ∈ r1, E k = false ∧ ∀ ok, ops[k]? = some ok → ok.apart ops oi = true) → Can P X ops Q S E St Pu N (r1 ++ i :: r2) a w →
      ∃ v, YieldsE P X ops (if St i then (fun w => Pu i = true ∨ S w) else X w) oi v a ∧ Can P X ops Q S E St Pu N (r1 ++ r2) (a.put oi.dst v) w
  | [], a, _, h => by
    simp only [List.nil_append, Can, hi, hEi, Bool.false_eq_true, if_false] at h
    exact h
  | k :: r1, a, hr, h => by
    obtain ⟨hEk, hap⟩ := hr k (by simp)
    simp only [List.cons_append, Can] at h ⊢
    cases hk : ops[k]? with
    | none => simp [hk] at h
    | some ok =>
      simp only [hk, hEk, Bool.false_eq_true, if_false] at h ⊢
      obtain ⟨vk, hyk, h⟩ := h
      obtain ⟨v, hy, h⟩ := move_quiet hsel hi hEi r1 _ (fun x hx => hr x (by simp [hx])) h
      obtain ⟨h1, h2, h3⟩ := Oper.apart_spec (hap ok hk)
      refine ⟨v, hy.of_same (execOp_put oi (fun cs b => hsel i oi cs b hi) a ok.dst vk h1).symm (wanted_put oi a ok.dst vk h1).symm, vk,
        hyk.of_same (execOp_put ok (fun cs b => hsel k ok cs b hk) a oi.dst v h3) (wanted_put ok a oi.dst v h3), ?_⟩
      rw [Act.put_comm a v vk (fun d hd he => h2 d he hd)]
      exact h

/-- One that acts and may come up ahead of quiet ones that float. -/
theorem move_act (hsel : ∀ (j : Nat) (o : Oper) cs b, ops[j]? = some o → o.op ≠ .select cs b) (hQ : ∀ c a a' w, Q (.panic c) a w → Q (.panic c) a' w) {i : Nat} {oi : Oper} (hi : ops[i]? = some oi) (hEi : E i = true) {r2 : List Nat} {w w2 : World} (hx : X w w2) :
    ∀ (r1 : List Nat) (a : Act), (∀ k ∈ r1, E k = false ∧ St k = true ∧ ∀ ok, ops[k]? = some ok → ok.apart ops oi = true) → Can P X ops Q S E St Pu N (r1 ++ i :: r2) a w →
      wpOp P ops Q i (fun a' w' => (N i = true → S w') ∧ Can P X ops Q S E St Pu N (r1 ++ r2) a' w') a w2
  | [], a, _, h => by
    simp only [List.nil_append, Can, hi, hEi, if_true] at h
    exact h w2 hx
  | k :: r1, a, hr, h => by
    obtain ⟨hEk, hSk, hap⟩ := hr k (by simp)
    simp only [List.cons_append, Can] at h
    cases hk : ops[k]? with
    | none => simp [hk] at h
    | some ok =>
      simp only [hk, hEk, hSk, Bool.false_eq_true, if_false, if_true] at h
      obtain ⟨vk, hyk, h⟩ := h
      have h1 := move_act hsel hQ hi hEi hx r1 _ (fun x hx => hr x (by simp [hx])) h
      have h2 := wpOp_putE hi (hap ok hk) (fun cs b => hsel k ok cs b hk) (fun cs b => hsel i oi cs b hi) hQ hyk h1
      refine wpOp_mono (fun a' w' ⟨g1, g2, g3⟩ => ⟨g2, ?_⟩) h2
      simp only [List.cons_append, Can, hk, hEk, hSk, Bool.false_eq_true, if_false, if_true]
      exact ⟨vk, g1, g3⟩

theorem Good.ready_mem {r : List Nat} {listed : Array Bool} (g : Good ops E St Pu N r listed) {i : Nat} (hi : i ∈ Region.ready .any ops listed) : i ∈ r := by
  obtain ⟨h1, o, ho, _⟩ := mem_ready.1 hi
  exact (g.mem i).2 ⟨(Array.getElem?_eq_some_iff.1 ho).1, h1⟩

theorem Good.head {k : Nat} {r : List Nat} {listed : Array Bool} (g : Good ops E St Pu N (k :: r) listed) : k ∈ Region.ready .any ops listed := by
  obtain ⟨h1, h2⟩ := (g.mem k).1 (by simp)
  rw [mem_ready]
  refine ⟨h2, ops[k], by simp [h1], fun e he hb => ?_⟩
  have hs := g.self k (by simp)
  simp only [selfOk, h1, Array.getElem?_eq_getElem, Array.all_eq_true_iff_forall_mem] at hs
  have hs1 := hs e he
  simp only [hb, Bool.not_true, Bool.false_or, Bool.and_eq_true, bne_iff_ne, decide_eq_true_eq] at hs1
  cases hx : listed.getD e.on false with
  | true => rfl
  | false =>
    have hm : e.on ∈ k :: r := (g.mem e.on).2 ⟨hs1.2, by rw [getD_ft (by rw [g.size]; exact hs1.2) true false]; exact hx⟩
    rcases List.mem_cons.1 hm with hm | hm
    · exact absurd hm hs1.1
    · have hp := (List.pairwise_cons.1 g.pair).1 e.on hm
      have hp := hp.1
      simp only [pairCore, Bool.and_eq_true, Bool.not_eq_true'] at hp
      have hd : dep ops k e.on = true := dep_iff.2 ⟨ops[k], by simp [h1], e, he, hb, rfl⟩
      rw [hd] at hp
      exact absurd hp.1.1 (by simp)

theorem Good.next {r1 r2 : List Nat} {i : Nat} {listed : Array Bool} (g : Good ops E St Pu N (r1 ++ i :: r2) listed) (hi : i ∈ Region.ready .any ops listed) : Good ops E St Pu N (r1 ++ r2) (listed.setIfInBounds i true) := by
  have hsub : (r1 ++ r2).Sublist (r1 ++ i :: r2) := List.Sublist.append_left (List.sublist_cons_self i r2) r1
  have hin : i ∉ r1 ++ r2 := by
    have := g.nodup
    rw [List.nodup_append] at this
    obtain ⟨n1, n2, n3⟩ := this
    rw [List.nodup_cons] at n2
    intro hm
    rcases List.mem_append.1 hm with hm | hm
    · exact n3 i hm i (by simp) rfl
    · exact n2.1 hm
  have hlt : i < ops.size := ((g.mem i).1 (by simp)).1
  refine ⟨by simp [g.size], hsub.nodup g.nodup, fun j => ?_, g.pair.sublist hsub, fun j hj => g.self j (hsub.subset hj), fun j k hj hd => ?_⟩
  · by_cases hji : i = j
    · subst hji
      simp only [hin, false_iff, not_and]
      intro _
      simp [g.size, hlt]
    · rw [getD_set_ne true hji, ← g.mem j]
      simp only [List.mem_append, List.mem_cons]
      constructor
      · rintro (h | h) <;> simp [h]
      · rintro (h | rfl | h)
        · exact .inl h
        · exact absurd rfl hji
        · exact .inr h
  · by_cases hji : i = j
    · subst hji
      obtain ⟨o, ho, e, he, hb, rfl⟩ := dep_iff.1 hd
      obtain ⟨_, o', ho', hall⟩ := mem_ready.1 hi
      rw [ho] at ho'
      cases ho'
      exact getD_set_true (hall e he hb)
    · rw [getD_set_ne false hji] at hj
      exact getD_set_true (g.closed j k hj hd)

theorem can_any (hsel : ∀ (j : Nat) (o : Oper) cs b, ops[j]? = some o → o.op ≠ .select cs b) (hQ : ∀ c a a' w, Q (.panic c) a w → Q (.panic c) a' w) (hXr : ∀ w, X w w) (hXt : ∀ a b c, X a b → X b c → X a c) (hSx : ∀ w w', S w → X w w' → S w') :
    ∀ (fuel : Nat) (r : List Nat) (listed : Array Bool) (a : Act) (w0 w : World), r.length ≤ fuel → Good ops E St Pu N r listed → Can P X ops Q S E St Pu N r a w0 → X w0 w → ((∃ k ∈ r, St k = true ∧ Pu k = false) → S w) → wpAny P .any ops Q fuel listed a w
  | 0, r, listed, a, w0, w, hl, g, h, hx, hS => by
    obtain rfl : r = [] := List.eq_nil_of_length_eq_zero (by omega)
    refine ⟨?_, h w hx⟩
    rw [List.eq_nil_iff_forall_not_mem]
    exact fun i hi => by simpa using g.ready_mem hi
  | fuel + 1, r, listed, a, w0, w, hl, g, h, hx, hS => by
    refine ⟨fun h0 => ?_, fun i hi => ?_⟩
    · cases r with
      | nil => exact h w hx
      | cons k r => have := g.head; rw [h0] at this; simp at this
    · obtain ⟨r1, r2, rfl⟩ := List.append_of_mem (g.ready_mem hi)
      obtain ⟨_, oi, hoi, hall⟩ := mem_ready.1 hi
      have hnext := g.next hi
      have hS' : (∃ k ∈ r1 ++ r2, St k = true ∧ Pu k = false) → S w := fun ⟨k, hk, hs⟩ => hS ⟨k, by
        simp only [List.mem_append, List.mem_cons] at hk ⊢
        rcases hk with hk | hk <;> simp [hk], hs⟩
      have hlen : (r1 ++ r2).length ≤ fuel := by simp at hl ⊢; omega
      have hpair2 : ∀ k ∈ r1, pairCore ops E St k i = true ∧ pairN ops E St Pu N k i = true := fun k hk => by
        have := g.pair
        rw [List.pairwise_append] at this
        exact this.2.2 k hk i (by simp)
      have hpair : ∀ k ∈ r1, pairCore ops E St k i = true := fun k hk => (hpair2 k hk).1
      have hnd : ∀ k ∈ r1, dep ops i k = false := fun k hk => by
        cases hd : dep ops i k with
        | false => rfl
        | true =>
          obtain ⟨o, ho, e, he, hb, rfl⟩ := dep_iff.1 hd
          rw [hoi] at ho
          cases ho
          have h1 := hall e he hb
          obtain ⟨h2, h3⟩ := (g.mem e.on).1 (List.mem_append_left _ hk)
          rw [getD_ft (by rw [g.size]; exact h2) true false, h1] at h3
          cases h3
      have hne : ∀ k ∈ r1, i ≠ k := fun k hk e => by
        have := hpair k hk
        simp [pairCore, e] at this
      have hE : ∀ k ∈ r1, E k = false := fun k hk => by
        cases hEk : E k with
        | false => rfl
        | true =>
          have hp := hpair k hk
          simp only [pairCore, hEk, if_true, Bool.and_eq_true] at hp
          exact absurd (blk_ready g (List.mem_append_left _ hk) hi hp.2) (hne k hk)
      have hap : ∀ k ∈ r1, ∀ ok, ops[k]? = some ok → ok.apart ops oi = true := fun k hk ok hok => by
        have hp := hpair k hk
        simp only [pairCore, hE k hk, Bool.false_eq_true, if_false, Bool.and_eq_true, hnd k hk, Bool.false_or, hok, hoi] at hp
        exact hp.2.1
      cases hEi : E i with
      | false =>
        obtain ⟨v, hy, h'⟩ := move_quiet hsel hoi hEi r1 a (fun k hk => ⟨hE k hk, hap k hk⟩) h
        unfold wpOp
        simp only [hoi]
        rcases hy with ⟨hw, hv⟩ | ⟨hw, rfl⟩
        · simp only [hw, if_true]
          refine .inl ?_
          have hq := hv w (by
            cases hsi : St i with
            | false => simpa using hx
            | true =>
              simp only [if_true]
              cases hpi : Pu i with
              | true => exact .inl rfl
              | false => exact .inr (hS ⟨i, by simp, hsi, hpi⟩))
          unfold quietE at hq
          unfold Oper.wp
          generalize (execOp a.eval oi).run P w = res at *
          cases res with
          | ok n w' =>
            cases n <;> simp only at hq <;> simp only [Oper.upon]
            case value u =>
              obtain ⟨q1, rfl⟩ := hq
              exact can_any hsel hQ hXr hXt hSx fuel _ _ _ w0 w' hlen hnext h' (hXt _ _ _ hx q1) (fun hs => hSx _ _ (hS' hs) q1)
            case skip =>
              obtain ⟨q1, rfl⟩ := hq
              exact can_any hsel hQ hXr hXt hSx fuel _ _ _ w0 w' hlen hnext h' (hXt _ _ _ hx q1) (fun hs => hSx _ _ (hS' hs) q1)
            case enter f args =>
              refine hq.mono fun e w'' ⟨he, q1⟩ => ?_
              subst he
              exact can_any hsel hQ hXr hXt hSx fuel _ _ _ w0 w'' hlen hnext h' (hXt _ _ _ hx q1) (fun hs => hSx _ _ (hS' hs) q1)
          | halt x w' => simp only at hq
        · simp only [hw, Bool.false_eq_true, if_false]
          exact can_any hsel hQ hXr hXt hSx fuel _ _ _ w0 w hlen hnext h' hx hS'
      | true =>
        have hSt : ∀ k ∈ r1, St k = true := fun k hk => by
          cases hk' : St k with
          | true => rfl
          | false =>
            have hp := hpair k hk
            simp only [pairCore, hE k hk, Bool.false_eq_true, if_false, Bool.and_eq_true, hk', hEi, Bool.not_true, Bool.false_or] at hp
            exact absurd (blk_ready g (List.mem_append_left _ hk) hi hp.2.2) (hne k hk)
        have h' := move_act hsel hQ hoi hEi hx r1 a (fun k hk => ⟨hE k hk, hSt k hk, hap k hk⟩) h
        refine wpOp_mono (fun a' w' ⟨g1, g2⟩ => can_any hsel hQ hXr hXt hSx fuel _ _ _ w' w' hlen hnext g2 (hXr w') (fun ⟨k, hk, hs⟩ => g1 ?_)) h'
        rcases List.mem_append.1 hk with hk | hk
        · have hp := (hpair2 k hk).2
          simp only [pairN, Bool.and_eq_true, hs.1, hs.2, hEi, Bool.not_false, Bool.and_self, Bool.not_true, Bool.false_or, Bool.or_eq_true] at hp
          rcases hp.2 with h1 | h1
          · exact h1
          · exact absurd (blk_ready g (List.mem_append_left _ hk) hi h1) (hne k hk)
        · have hp := g.pair
          rw [List.pairwise_append] at hp
          have hp := ((List.pairwise_cons.1 hp.2.1).1 k hk).2
          simp only [pairN, Bool.and_eq_true, hs.1, hs.2, hEi, Bool.not_false, Bool.and_self, Bool.not_true, Bool.false_or] at hp
          exact hp.1

/-- The list c is an order in which the region may be walked: E those that act, St those that look at S alone. -/
def canOk (ops : Array Oper) (E St Pu N c : List Nat) : Bool :=
  Region.noSelect ops && decide (c.length = ops.size) && (List.range ops.size).all (c.contains ·) && c.all (fun i => decide (i < ops.size) && selfOk ops i) &&
  allPairs (fun k i => pairCore ops (E.contains ·) (St.contains ·) k i && pairN ops (E.contains ·) (St.contains ·) (Pu.contains ·) (N.contains ·) k i) c
where
  allPairs (f : Nat → Nat → Bool) : List Nat → Bool
    | [] => true
    | k :: c => c.all (f k) && allPairs f c

theorem pairwise_of_all (f : Nat → Nat → Bool) : ∀ c, canOk.allPairs f c = true → c.Pairwise fun k i => f k i = true
  | [], _ => .nil
  | k :: c, h => by
    simp only [canOk.allPairs, Bool.and_eq_true, List.all_eq_true] at h
    exact .cons h.1 (pairwise_of_all f c h.2)

theorem wp_region_can {id : Nat} {a : Act} {w : World} (X : World → World → Prop) (hXr : ∀ w, X w w) (hXt : ∀ a b c, X a b → X b c → X a c) (E St Pu N c : List Nat) (S : World → Prop) (hm : P.follows .mixedOrders = true) (hc : canOk ops E St Pu N c = true)
    (hQ : ∀ c a a' w, Q (.panic c) a w → Q (.panic c) a' w) (hSx : ∀ w w', S w → X w w' → S w') (hS : S w.drew)
    (h : Can P X ops Q S (E.contains ·) (St.contains ·) (Pu.contains ·) (N.contains ·) c a w.drew) : (Code.region id ops true).wp P Q a w := by
  simp only [canOk, Bool.and_eq_true, decide_eq_true_eq, List.all_eq_true, List.mem_range] at hc
  obtain ⟨⟨⟨⟨c1, c2⟩, c3⟩, c4⟩, c5⟩ := hc
  have hp := pairwise_of_all _ _ c5
  refine wp_region_any hm (can_any (E := (E.contains ·)) (St := (St.contains ·)) (Pu := (Pu.contains ·)) (N := (N.contains ·)) (Region.noSelect_spec c1) hQ hXr hXt hSx ops.size c _ a w.drew w.drew (Nat.le_of_eq c2) ?_ h (hXr _) (fun _ => hS))
  refine ⟨by simp, ?_, fun i => ?_, hp.imp (fun {x y} h => by simpa using h), fun i hi => (c4 i hi).2, fun j k hj => ?_⟩
  · rw [List.nodup_iff_pairwise_ne]
    refine hp.imp (fun {x y} hxy e => ?_)
    simp [pairCore, e] at hxy
  · constructor
    · intro hi
      exact ⟨(c4 i hi).1, by simp [(c4 i hi).1]⟩
    · rintro ⟨hi, _⟩
      simpa using c3 i hi
  · by_cases hlt : j < ops.size
    · simp [hlt] at hj
    · simp [hlt] at hj

/-- Q, but no panic. -/
def Calm (Q : Exit → Act → World → Prop) : Exit → Act → World → Prop
  | .panic _, _, _ => False
  | e, a, w => Q e a w
theorem calm_imp {Q : Exit → Act → World → Prop} : ∀ (e : Exit) (a : Act) (w : World), Calm Q e a w → Q e a w := fun e a w h => by
  cases e <;> first | exact h | exact (h : False).elim

/-- A region in which no call is quiet: the world stays the very same till one acts; floating ones look at no world. -/
theorem wp_region_one {id : Nat} {a : Act} {w : World} (E St Pu N c : List Nat) (hm : P.follows .mixedOrders = true) (hc : canOk ops E St Pu N c = true)
    (h : Can P One ops (Calm Q) (fun _ => True) (E.contains ·) (St.contains ·) (Pu.contains ·) (N.contains ·) c a w.drew) : (Code.region id ops true).wp P Q a w :=
  Code.wp_mono calm_imp (wp_region_can One (fun _ => rfl) (fun _ _ _ h k => k.trans h) E St Pu N c (fun _ => True) hm hc (fun _ _ _ _ h => h) (fun _ _ _ _ => trivial) trivial h)
/-- .. floating ones look at what S says. -/
theorem wp_region_held1 {id : Nat} {a : Act} {w : World} (E St Pu N c : List Nat) (S : World → Prop) (hm : P.follows .mixedOrders = true) (hc : canOk ops E St Pu N c = true)
    (hS : S w.drew) (h : Can P One ops (Calm Q) S (E.contains ·) (St.contains ·) (Pu.contains ·) (N.contains ·) c a w.drew) : (Code.region id ops true).wp P Q a w :=
  Code.wp_mono calm_imp (wp_region_can One (fun _ => rfl) (fun _ _ _ h k => k.trans h) E St Pu N c S hm hc (fun _ _ _ _ h => h) (fun _ _ h k => by rw [show _ = _ from k]; exact h) hS h)
/-- Calls may be quiet: they leave all that is there as it is. -/
theorem wp_region_ext {id : Nat} {a : Act} {w : World} (E St Pu N c : List Nat) (S : World → Prop) (hm : P.follows .mixedOrders = true) (hc : canOk ops E St Pu N c = true)
    (hSx : ∀ w w', S w → Ext w w' → S w') (hS : S w.drew)
    (h : Can P Ext ops (Calm Q) S (E.contains ·) (St.contains ·) (Pu.contains ·) (N.contains ·) c a w.drew) : (Code.region id ops true).wp P Q a w :=
  Code.wp_mono calm_imp (wp_region_can Ext Ext.refl (fun _ _ _ h k => h.trans k) E St Pu N c S hm hc (fun _ _ _ _ h => h) hSx hS h)

/-! ### the steps of such a walk -/
def notCall (o : Oper) : Bool := match o.op with
  | .call { callee := .builtin b, .. } => (match b with | .len | .cap | .min | .max => true | _ => false)
  | .call _ | .go _ | .defer _ | .send .. | .recv .. | .select .. => false | _ => true

theorem notEnter {o : Oper} (h : notCall o = true) (ρ : Operand → Value) (w w' : World) (f : FuncId) (args : Array Value) : (execOp ρ o).run P w ≠ .ok (.enter f args) w' := by
  have key : ∀ (s : Sem Value), (do pure (Next.value (← s)) : Sem Next).run P w ≠ .ok (.enter f args) w' := by
    intro s
    simp only [Sem.run_bind, Result.andThen]
    split <;> simp
  have key2 : ∀ (s : Sem Unit), (do s; pure Next.skip : Sem Next).run P w ≠ .ok (.enter f args) w' := by
    intro s
    simp only [Sem.run_bind, Result.andThen]
    split <;> simp
  obtain ⟨dst, op, type, pos, after, guard⟩ := o
  cases op <;> simp only [notCall] at h <;> simp only [execOp] <;> first | exact key _ | exact key2 _ | skip
  case move x => simp
  case assign x => simp
  case nilCheck x =>
    split
    · simp [runtimePanic]
    · simp [runtimePanic]
    · simp [runtimePanic]
    · split
      · simp [runtimePanic]
      · simp only [Sem.run_bind, Result.andThen]
        repeat' split
        all_goals simp_all
      · simp
    · simp
  case pick c a b =>
    simp only [Sem.run_bind, Result.andThen]
    split <;> simp
  case call c =>
    obtain ⟨callee, args', argTypes⟩ := c
    cases callee with
    | value _ => cases h
    | invoke _ _ => cases h
    | builtin b => cases b <;> simp only [] at h <;> first | (cases h; done) | (simp only [resolve, invoke, builtin, Sem.run_bind, Sem.run_pure, Result.andThen_ok]; have k := key; simp only [Sem.run_bind, Sem.run_pure] at k; exact k _)
  all_goals cases h

theorem yieldsE_of_quiet {C : World → Prop} (hXr : ∀ w, X w w) {o : Oper} (hn : notCall o = true) {a : Act} {v : Value} (hw : Region.wanted o (yielded ops a.tmps) = true)
    (h : ∀ w, C w → o.quietAt P a C w v) : YieldsE P X ops C o v a := by
  refine .inl ⟨hw, fun w hC => ?_⟩
  have h1 := h w hC
  unfold Oper.quietAt at h1
  unfold quietE
  generalize hr : (execOp a.eval o).run P w = r at *
  cases r with
  | ok n w' =>
    cases n <;> simp only [Oper.quietUpon] at h1 <;> simp only
    case value u => exact ⟨by rw [h1.1]; exact hXr w, h1.2⟩
    case skip => exact ⟨by rw [h1.1]; exact hXr w, h1.2⟩
    case enter f args => exact absurd hr (notEnter hn _ _ _ _ _)
  | halt x w' => simp only [Oper.quietUpon] at h1

def nth {α : Type} : List α → Nat → Option α
  | [], _ => none
  | x :: _, 0 => some x
  | _ :: xs, k + 1 => nth xs k
theorem nth_eq {α : Type} : ∀ (l : List α) (k : Nat), nth l k = l[k]?
  | [], k => by simp [nth]
  | x :: xs, 0 => by simp [nth]
  | x :: xs, k + 1 => by simp [nth, nth_eq xs k]
theorem nth_arr {l : List Oper} {k : Nat} {o : Oper} (h : nth l k = some o) : l.toArray[k]? = some o := by rw [nth_eq] at h; simpa using h

section
variable {l : List Oper}
/-- A quiet operation that floats. -/
theorem can_st {k : Nat} {c : List Nat} {a : Act} {w : World} {o : Oper} (hXr : ∀ w, X w w) (ho : nth l k = some o) (hE : E k = false) (hSt : St k = true) (hPu : Pu k = false) (hn : notCall o = true) (hw : Region.wanted o (yielded l.toArray a.tmps) = true)
    (h : ∀ K : Act → Prop, (∀ a, Can P X l.toArray Q S E St Pu N c a w → K a) → o.quiet P a S K) : Can P X l.toArray Q S E St Pu N (k :: c) a w := by
  simp only [Can, nth_arr ho, hE, hSt, hPu, Bool.false_eq_true, if_false, if_true, false_or]
  obtain ⟨v, h1, h2⟩ := h _ (fun _ h => h)
  exact ⟨v, yieldsE_of_quiet hXr hn hw h1, h2⟩
theorem can_pu {k : Nat} {c : List Nat} {a : Act} {w : World} {o : Oper} (hXr : ∀ w, X w w) (ho : nth l k = some o) (hE : E k = false) (hSt : St k = true) (hPu : Pu k = true) (hn : notCall o = true) (hw : Region.wanted o (yielded l.toArray a.tmps) = true)
    (h : ∀ K : Act → Prop, (∀ a, Can P X l.toArray Q S E St Pu N c a w → K a) → o.quiet P a (fun _ => True) K) : Can P X l.toArray Q S E St Pu N (k :: c) a w := by
  simp only [Can, nth_arr ho, hE, hSt, hPu, Bool.false_eq_true, if_false, if_true, true_or]
  obtain ⟨v, h1, h2⟩ := h _ (fun _ h => h)
  exact ⟨v, yieldsE_of_quiet hXr hn hw h1, h2⟩
/-- A quiet operation that comes up ahead of all that act. -/
theorem can_early {k : Nat} {c : List Nat} {a : Act} {w : World} {o : Oper} (hXr : ∀ w, X w w) (ho : nth l k = some o) (hE : E k = false) (hSt : St k = false) (hn : notCall o = true) (hw : Region.wanted o (yielded l.toArray a.tmps) = true)
    (h : ∀ K : Act → Prop, (∀ a, Can P X l.toArray Q S E St Pu N c a w → K a) → o.quiet P a (X w) K) : Can P X l.toArray Q S E St Pu N (k :: c) a w := by
  simp only [Can, nth_arr ho, hE, hSt, Bool.false_eq_true, if_false]
  obtain ⟨v, h1, h2⟩ := h _ (fun _ h => h)
  exact ⟨v, yieldsE_of_quiet hXr hn hw h1, h2⟩
/-- One whose guard says no. -/
theorem can_skip {k : Nat} {c : List Nat} {a : Act} {w : World} {o : Oper} (ho : nth l k = some o) (hE : E k = false) (hw : Region.wanted o (yielded l.toArray a.tmps) = false)
    (h : Can P X l.toArray Q S E St Pu N c (a.put o.dst undef) w) : Can P X l.toArray Q S E St Pu N (k :: c) a w := by
  simp only [Can, nth_arr ho, hE, Bool.false_eq_true, if_false]
  exact ⟨undef, .inr ⟨hw, rfl⟩, h⟩
theorem can_act_skip {k : Nat} {c : List Nat} {a : Act} {w : World} {o : Oper} (ho : nth l k = some o) (hE : E k = true) (hw : Region.wanted o (yielded l.toArray a.tmps) = false)
    (h : ∀ w2, X w w2 → (N k = true → S w2) ∧ Can P X l.toArray Q S E St Pu N c (a.put o.dst undef) w2) : Can P X l.toArray Q S E St Pu N (k :: c) a w := by
  simp only [Can, nth_arr ho, hE, if_true]
  intro w2 hx
  unfold wpOp
  simp only [nth_arr ho, hw, Bool.false_eq_true, if_false]
  exact h w2 hx
/-- One that acts. -/
theorem can_act {k : Nat} {c : List Nat} {a : Act} {w : World} {o : Oper} (ho : nth l k = some o) (hE : E k = true) (hw : Region.wanted o (yielded l.toArray a.tmps) = true)
    (h : ∀ w2, X w w2 → ∀ K : Act → World → Prop, (∀ a' w', (N k = true → S w') ∧ Can P X l.toArray Q S E St Pu N c a' w' → K a' w') → o.wp P a w2 K Q) : Can P X l.toArray Q S E St Pu N (k :: c) a w := by
  simp only [Can, nth_arr ho, hE, if_true]
  intro w2 hx
  unfold wpOp
  simp only [nth_arr ho, hw, if_true]
  exact .inl (h w2 hx _ (fun _ _ h => h))
/-- .. the world being the very same, and nothing to be shown anew. -/
theorem can_act1 {k : Nat} {c : List Nat} {a : Act} {w : World} {o : Oper} (ho : nth l k = some o) (hE : E k = true) (hw : Region.wanted o (yielded l.toArray a.tmps) = true)
    (h : ∀ K : Act → World → Prop, (∀ a' w', Can P One l.toArray Q (fun _ => True) E St Pu N c a' w' → K a' w') → o.wp P a w K Q) : Can P One l.toArray Q (fun _ => True) E St Pu N (k :: c) a w :=
  can_act ho hE hw fun w2 hx K hK => by
    have : w2 = w := hx
    subst this
    exact h K fun a' w' hc => hK a' w' ⟨fun _ => trivial, hc⟩
theorem can_actS {k : Nat} {c : List Nat} {a : Act} {w : World} {o : Oper} (ho : nth l k = some o) (hE : E k = true) (_ : N k = true) (hw : Region.wanted o (yielded l.toArray a.tmps) = true)
    (h : ∀ K : Act → World → Prop, (∀ a' w', S w' ∧ Can P One l.toArray Q S E St Pu N c a' w' → K a' w') → o.wp P a w K Q) : Can P One l.toArray Q S E St Pu N (k :: c) a w :=
  can_act ho hE hw fun w2 hx K hK => by
    have : w2 = w := hx
    subst this
    exact h K fun a' w' ⟨h1, h2⟩ => hK a' w' ⟨fun _ => h1, h2⟩
theorem can_actF {k : Nat} {c : List Nat} {a : Act} {w : World} {o : Oper} (ho : nth l k = some o) (hE : E k = true) (hN : N k = false) (hw : Region.wanted o (yielded l.toArray a.tmps) = true)
    (h : ∀ K : Act → World → Prop, (∀ a' w', Can P One l.toArray Q S E St Pu N c a' w' → K a' w') → o.wp P a w K Q) : Can P One l.toArray Q S E St Pu N (k :: c) a w :=
  can_act ho hE hw fun w2 hx K hK => by
    have : w2 = w := hx
    subst this
    exact h K fun a' w' hc => hK a' w' ⟨(fun h => absurd (hN.symm.trans h) (by simp)), hc⟩
/-- A call that is quiet. -/
theorem can_call {k : Nat} {c : List Nat} {a : Act} {w : World} {o : Oper} {f : FuncId} {args : Array Value} (v : Value) (ho : nth l k = some o) (hE : E k = false) (hw : Region.wanted o (yielded l.toArray a.tmps) = true)
    (hf : ∀ w, (execOp a.eval o).run P w = .ok (.enter f args) w) (hc : ∀ w2, (if St k then (fun w => Pu k = true ∨ S w) else X w) w2 → Calls P f args w2 fun e w'' => e = .returned v ∧ X w2 w'')
    (h : Can P X l.toArray Q S E St Pu N c (a.put o.dst v) w) : Can P X l.toArray Q S E St Pu N (k :: c) a w := by
  simp only [Can, nth_arr ho, hE, Bool.false_eq_true, if_false]
  refine ⟨v, .inl ⟨hw, fun w2 hC => ?_⟩, h⟩
  unfold quietE
  rw [hf w2]
  exact hc w2 hC
theorem can_end1 {a : Act} {w : World} (h : Q .normal a w) : Can P One l.toArray (Calm Q) S E St Pu N [] a w := fun w2 hx => by
  have : w2 = w := hx
  subst this
  exact h
theorem can_end {a : Act} {w : World} (h : ∀ w2, X w w2 → Q .normal a w2) : Can P X l.toArray (Calm Q) S E St Pu N [] a w := h
/-- A load, whatever the class of worlds. -/
theorem quiet_load {C : World → Prop} {o : Oper} {act : Act} {K : Act → Prop} {t : TypeId} {x : Operand} {a : Addr} {v : Value} (hop : o.op = .load t x) (hagg : ∀ w, (isAgg t).run P w = .ok false w) (ha : act.eval x = .pointer (some a)) (hc : ∀ w, C w → w.cell? a = some v)
    (hk : K (act.put o.dst v)) : o.quiet P act C K := by
  refine ⟨v, fun w hC => ?_, hk⟩
  unfold Oper.quietAt
  have h1 := hc w hC
  simp [execOp, hop, ha, Instr.loadAt, Instr.sureAddr, loadVar, hagg, h1, Oper.quietUpon]
theorem can_early1 {k : Nat} {c : List Nat} {a : Act} {w : World} {o : Oper} (ho : nth l k = some o) (hE : E k = false) (hSt : St k = false) (hn : notCall o = true) (hw : Region.wanted o (yielded l.toArray a.tmps) = true)
    (h : ∀ K : Act → Prop, (∀ a, Can P One l.toArray Q S E St Pu N c a w → K a) → o.quiet P a (fun w2 => w2 = w) K) : Can P One l.toArray Q S E St Pu N (k :: c) a w :=
  can_early (fun _ => rfl) ho hE hSt hn hw h
theorem can_st1 {k : Nat} {c : List Nat} {a : Act} {w : World} {o : Oper} (ho : nth l k = some o) (hE : E k = false) (hSt : St k = true) (hPu : Pu k = false) (hn : notCall o = true) (hw : Region.wanted o (yielded l.toArray a.tmps) = true)
    (h : ∀ K : Act → Prop, (∀ a, Can P One l.toArray Q S E St Pu N c a w → K a) → o.quiet P a S K) : Can P One l.toArray Q S E St Pu N (k :: c) a w :=
  can_st (fun _ => rfl) ho hE hSt hPu hn hw h
theorem can_pu1 {k : Nat} {c : List Nat} {a : Act} {w : World} {o : Oper} (ho : nth l k = some o) (hE : E k = false) (hSt : St k = true) (hPu : Pu k = true) (hn : notCall o = true) (hw : Region.wanted o (yielded l.toArray a.tmps) = true)
    (h : ∀ K : Act → Prop, (∀ a, Can P One l.toArray Q S E St Pu N c a w → K a) → o.quiet P a (fun _ => True) K) : Can P One l.toArray Q S E St Pu N (k :: c) a w :=
  can_pu (fun _ => rfl) ho hE hSt hPu hn hw h
/-- A call that is quiet and leaves the very same world. -/
theorem can_call1 {k : Nat} {c : List Nat} {a : Act} {w : World} {o : Oper} {f : FuncId} {args : Array Value} {v : Value} (ho : nth l k = some o) (hE : E k = false) (hSt : St k = false) (hw : Region.wanted o (yielded l.toArray a.tmps) = true)
    (hf : ∀ w, (execOp a.eval o).run P w = .ok (.enter f args) w) (hc : Calls P f args w fun e w'' => e = .returned v ∧ w'' = w)
    (h : Can P One l.toArray Q S E St Pu N c (a.put o.dst v) w) : Can P One l.toArray Q S E St Pu N (k :: c) a w :=
  can_call v ho hE hw hf (fun w2 h2 => by
    rw [hSt] at h2
    have : w2 = w := h2
    subst this
    exact hc) h
theorem One.rfl (w : World) : One w w := Eq.refl w
end
end
end Go.Sl
