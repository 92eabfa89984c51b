/-
  A region that draws its order, where two operations that act may come up in either order: walked in a tree of orders.
-/
import Derived.Test.YtdkhgkkdnjejmaaSlRegion
namespace Go.Sl
set_option linter.unusedVariables false
set_option linter.unusedSimpArgs false
open Go Go.RowKit

/-- What stands behind a list of operations: nothing, or two lists, one of which is taken. -/
inductive Pl where
  | nil
  | two (c1 : List Nat) (t1 : Pl) (c2 : List Nat) (t2 : Pl)

def Pl.fl : Pl → List Nat
  | .nil => []
  | .two c1 t1 _ _ => c1 ++ t1.fl

/-- Q, but at the end Z. -/
def atEnd (Q : Exit → Act → World → Prop) (Z : Act → World → Prop) : Exit → Act → World → Prop
  | .normal, a, w => Z a w
  | e, a, w => Q e a w

section
variable {P : Program} {ops : Array Oper} {Q Q1 Q2 : Exit → Act → World → Prop} {S : World → Prop} {E St Pu N : Nat → Bool} {X : World → World → Prop}

def qOf (P : Program) (X : World → World → Prop) (ops : Array Oper) (Q : Exit → Act → World → Prop) (S : World → Prop) (E St Pu N : Nat → Bool) : Pl → Exit → Act → World → Prop
  | .nil => Q
  | .two c1 t1 c2 t2 => atEnd Q fun a w => Can P X ops (qOf P X ops Q S E St Pu N t1) S E St Pu N c1 a w ∧ Can P X ops (qOf P X ops Q S E St Pu N t2) S E St Pu N c2 a w

/-- The two tell the same of all ends but the plain one. -/
def Agree (Q1 Q : Exit → Act → World → Prop) : Prop := ∀ e, e ≠ .normal → Q1 e = Q e

theorem agree_qOf : ∀ t : Pl, Agree (qOf P X ops Q S E St Pu N t) Q
  | .nil => fun _ _ => rfl
  | .two .. => fun e he => by
    cases e <;> first | exact absurd rfl he | rfl

theorem wpOp_agree (hA : Agree Q1 Q) {i : Nat} {K : Act → World → Prop} {a : Act} {w : World} (h : wpOp P ops Q1 i K a w) : wpOp P ops Q i K a w := by
  have hL : LetsOut Q1 → LetsOut Q := fun ⟨a, w, h⟩ => ⟨a, w, by rw [← hA .outgrown (by simp)]; exact h⟩
  unfold wpOp at *
  split
  · rename_i ho
    simpa [ho] using h
  · rename_i o ho
    simp only [ho] at h
    split
    · rename_i hw
      simp only [hw, if_true] at h
      rcases h with h | ⟨h1, h2⟩
      · refine .inl ?_
        unfold Oper.wp at *
        generalize (execOp a.eval o).run P w = r at *
        cases r with
        | ok n w' =>
          cases n <;> simp only [Oper.upon] at h ⊢ <;> first | exact h | skip
          case enter f args =>
            refine h.mono fun e w'' he => ?_
            cases e with
            | returned v => exact he
            | panicked c =>
              show Q (.panic c) a w''
              rw [← hA (.panic c) (by simp)]; exact he
            | outgrown => exact hL he
        | halt x w' =>
          cases x <;> simp only [Oper.upon] at h ⊢
          case panic u => rw [← hA (.panic _) (by simp)]; exact h
      · exact .inr ⟨h1, hL h2⟩
    · rename_i hw
      simpa [hw] using h

theorem can_append (hXr : ∀ w, X w w) (hA : Agree Q1 Q2) {r : List Nat} : ∀ (c : List Nat) (a : Act) (w : World),
    Can P X ops Q1 S E St Pu N c a w → (∀ a w, Q1 .normal a w → Can P X ops Q2 S E St Pu N r a w) → Can P X ops Q2 S E St Pu N (c ++ r) a w
  | [], a, w, h, hk => hk a w (h w (hXr w))
  | k :: c, a, w, h, hk => by
    simp only [List.cons_append, Can] at h ⊢
    cases ho : ops[k]? with
    | none => simp [ho] at h
    | some o =>
      simp only [ho] at h ⊢
      split
      · rename_i hE
        simp only [hE, if_true] at h
        exact fun w2 hx => wpOp_mono (fun a' w' ⟨g1, g2⟩ => ⟨g1, can_append hXr hA c a' w' g2 hk⟩) (wpOp_agree hA (h w2 hx))
      · rename_i hE
        simp only [hE] at h
        obtain ⟨v, hy, h⟩ := h
        exact ⟨v, hy, can_append hXr hA c _ w h hk⟩

theorem blk_ready' {listed : Array Bool} (hsz : listed.size = ops.size) (hcl : ∀ j k, listed.getD j false = true → dep ops j k = true → listed.getD k false = true) {k i : Nat} (hk : k < ops.size ∧ listed.getD k true = false) (hi : i ∈ Region.ready .any ops listed) (hb : (blkMask ops k).testBit i = true) : i = k := by
  obtain ⟨hk1, hk2⟩ := hk
  rw [getD_ft (by rw [hsz]; exact hk1) true false] at hk2
  have := blk_unlisted hsz hcl hk2 ops.toList (0, 0) (fun j => by simp) (fun i hi => by simp at hi) i hb
  rcases this.2 with h | ⟨j, h1, h2⟩
  · exact h
  · obtain ⟨o, ho, e, he, hbi, rfl⟩ := dep_iff.1 h1
    obtain ⟨_, o', ho', hall⟩ := mem_ready.1 hi
    rw [ho] at ho'
    cases ho'
    rw [hall e he hbi] at h2
    cases h2

theorem step_any (hsel : ∀ (j : Nat) (o : Oper) cs b, ops[j]? = some o → o.op ≠ .select cs b) (hQ : ∀ c a a' w, Q (.panic c) a w → Q (.panic c) a' w) (hXr : ∀ w, X w w) (hXt : ∀ a b c, X a b → X b c → X a c) (hSx : ∀ w w', S w → X w w' → S w')
    (hA : Agree Q1 Q) {r1 r2 fs : List Nat} {i : Nat} {listed : Array Bool} (hi : i ∈ Region.ready .any ops listed) (hsz : listed.size = ops.size) (hcl : ∀ j k, listed.getD j false = true → dep ops j k = true → listed.getD k false = true)
    (hun : ∀ k ∈ r1, k < ops.size ∧ listed.getD k true = false) (hpair2 : ∀ k ∈ r1, pairCore ops E St k i = true ∧ pairN ops E St Pu N k i = true) (hafter : ∀ k ∈ r2 ++ fs, pairN ops E St Pu N i k = true) (hfore : ∀ k ∈ r1, ∀ j ∈ fs, True)
    {a : Act} {w0 w : World} (h : Can P X ops Q1 S E St Pu N (r1 ++ i :: r2) a w0) (hx : X w0 w) (hS : (∃ k ∈ r1 ++ i :: r2 ++ fs, St k = true ∧ Pu k = false) → S w) {NEXT : Act → World → Prop}
    (next : ∀ a' w0' w', Can P X ops Q1 S E St Pu N (r1 ++ r2) a' w0' → X w0' w' → ((∃ k ∈ r1 ++ r2 ++ fs, St k = true ∧ Pu k = false) → S w') → NEXT a' w') : wpOp P ops Q i NEXT a w := by
  obtain ⟨_, oi, hoi, hall⟩ := mem_ready.1 hi
  have hS' : (∃ k ∈ r1 ++ r2 ++ fs, St k = true ∧ Pu k = false) → S w := fun ⟨k, hk, hs⟩ => hS ⟨k, by
    simp only [List.mem_append, List.mem_cons] at hk ⊢
    rcases hk with (hk | hk) | hk <;> simp [hk], hs⟩
  have hQ1 : ∀ c a a' w, Q1 (.panic c) a w → Q1 (.panic c) a' w := fun c a a' w => by
    rw [hA (.panic c) (by simp)]; exact hQ c a a' w
  have hpair : ∀ k ∈ r1, pairCore ops E St k i = true := fun k hk => (hpair2 k hk).1
  have hnd : ∀ k ∈ r1, dep ops i k = false := fun k hk => by
    cases hd : dep ops i k with
    | false => rfl
    | true =>
      obtain ⟨o, ho, e, he, hb, rfl⟩ := dep_iff.1 hd
      rw [hoi] at ho
      cases ho
      have h1 := hall e he hb
      obtain ⟨h2, h3⟩ := hun e.on hk
      rw [getD_ft (by rw [hsz]; exact h2) true false, h1] at h3
      cases h3
  have hne : ∀ k ∈ r1, i ≠ k := fun k hk e => by
    have := hpair k hk
    simp [pairCore, e] at this
  have hE : ∀ k ∈ r1, E k = false := fun k hk => by
    cases hEk : E k with
    | false => rfl
    | true =>
      have hp := hpair k hk
      simp only [pairCore, hEk, if_true, Bool.and_eq_true] at hp
      exact absurd (blk_ready' hsz hcl (hun k hk) hi hp.2) (hne k hk)
  have hap : ∀ k ∈ r1, ∀ ok, ops[k]? = some ok → ok.apart ops oi = true := fun k hk ok hok => by
    have hp := hpair k hk
    simp only [pairCore, hE k hk, Bool.false_eq_true, if_false, Bool.and_eq_true, hnd k hk, Bool.false_or, hok, hoi] at hp
    exact hp.2.1
  cases hEi : E i with
  | false =>
    obtain ⟨v, hy, h'⟩ := move_quiet hsel hoi hEi r1 a (fun k hk => ⟨hE k hk, hap k hk⟩) h
    unfold wpOp
    simp only [hoi]
    rcases hy with ⟨hw, hv⟩ | ⟨hw, rfl⟩
    · simp only [hw, if_true]
      refine .inl ?_
      have hq := hv w (by
        cases hsi : St i with
        | false => simpa using hx
        | true =>
          simp only [if_true]
          cases hpi : Pu i with
          | true => exact .inl rfl
          | false => exact .inr (hS ⟨i, by simp, hsi, hpi⟩))
      unfold quietE at hq
      unfold Oper.wp
      generalize (execOp a.eval oi).run P w = res at *
      cases res with
      | ok n w' =>
        cases n <;> simp only at hq <;> simp only [Oper.upon]
        case value u =>
          obtain ⟨q1, rfl⟩ := hq
          exact next _ w0 w' h' (hXt _ _ _ hx q1) (fun hs => hSx _ _ (hS' hs) q1)
        case skip =>
          obtain ⟨q1, rfl⟩ := hq
          exact next _ w0 w' h' (hXt _ _ _ hx q1) (fun hs => hSx _ _ (hS' hs) q1)
        case enter f args =>
          refine hq.mono fun e w'' ⟨he, q1⟩ => ?_
          subst he
          exact next _ w0 w'' h' (hXt _ _ _ hx q1) (fun hs => hSx _ _ (hS' hs) q1)
      | halt x w' => simp only at hq
    · simp only [hw, Bool.false_eq_true, if_false]
      exact next _ w0 w h' hx hS'
  | true =>
    have hSt : ∀ k ∈ r1, St k = true := fun k hk => by
      cases hk' : St k with
      | true => rfl
      | false =>
        have hp := hpair k hk
        simp only [pairCore, hE k hk, Bool.false_eq_true, if_false, Bool.and_eq_true, hk', hEi, Bool.not_true, Bool.false_or] at hp
        exact absurd (blk_ready' hsz hcl (hun k hk) hi hp.2.2) (hne k hk)
    have h' := wpOp_agree hA (move_act hsel hQ1 hoi hEi hx r1 a (fun k hk => ⟨hE k hk, hSt k hk, hap k hk⟩) h)
    refine wpOp_mono (fun a' w' ⟨g1, g2⟩ => next a' w' w' g2 (hXr w') (fun ⟨k, hk, hs⟩ => g1 ?_)) h'
    rw [List.append_assoc] at hk
    rcases List.mem_append.1 hk with hk | hk
    · have hp := (hpair2 k hk).2
      simp only [pairN, Bool.and_eq_true, hs.1, hs.2, hEi, Bool.not_false, Bool.and_self, Bool.not_true, Bool.false_or, Bool.or_eq_true] at hp
      rcases hp.2 with h1 | h1
      · exact h1
      · exact absurd (blk_ready' hsz hcl (hun k hk) hi h1) (hne k hk)
    · have hp := hafter k hk
      simp only [pairN, Bool.and_eq_true, hs.1, hs.2, hEi, Bool.not_false, Bool.and_self, Bool.not_true, Bool.false_or] at hp
      exact hp.1

/-- All pairs of a list. -/
def okPairs (f : Nat → Nat → Bool) : List Nat → Bool
  | [] => true
  | k :: c => c.all (f k) && okPairs f c
def pairB (ops : Array Oper) (E St Pu N : Nat → Bool) (k i : Nat) : Bool := pairCore ops E St k i && pairN ops E St Pu N k i
/-- The first of a branch, k1, and one that stands behind it, i; k2 the first of the other branch. -/
def headB (ops : Array Oper) (E St Pu N : Nat → Bool) (k1 k2 i : Nat) : Bool :=
  k1 != i && !(dep ops k1 i) && (i == k2 || (blkMask ops k1).testBit i || (blkMask ops k2).testBit i) && pairN ops E St Pu N k1 i
def okPl (ops : Array Oper) (E St Pu N : Nat → Bool) : Pl → Bool
  | .nil => true
  | .two (k1 :: d1) t1 (k2 :: d2) t2 =>
    k1 != k2 && (d1 ++ t1.fl).all (headB ops E St Pu N k1 k2) && (d2 ++ t2.fl).all (headB ops E St Pu N k2 k1) &&
    (d1 ++ t1.fl).all (fun i => i == k2 || (d2 ++ t2.fl).contains i) && (d2 ++ t2.fl).all (fun i => i == k1 || (d1 ++ t1.fl).contains i) && (d1 ++ t1.fl).contains k2 && (d2 ++ t2.fl).contains k1 &&
    decide ((d1 ++ t1.fl).length = (d2 ++ t2.fl).length) &&
    okPairs (pairB ops E St Pu N) d1 && d1.all (fun k => t1.fl.all (pairB ops E St Pu N k)) && okPairs (pairB ops E St Pu N) d2 && d2.all (fun k => t2.fl.all (pairB ops E St Pu N k)) &&
    okPl ops E St Pu N t1 && okPl ops E St Pu N t2
  | .two .. => false

structure GoodP (ops : Array Oper) (E St Pu N : Nat → Bool) (c : List Nat) (t : Pl) (listed : Array Bool) : Prop where
  size : listed.size = ops.size
  mem : ∀ i, i ∈ c ++ t.fl ↔ i < ops.size ∧ listed.getD i true = false
  pair : c.Pairwise fun k i => pairCore ops E St k i = true ∧ pairN ops E St Pu N k i = true
  pairT : ∀ k ∈ c, ∀ i ∈ t.fl, pairCore ops E St k i = true ∧ pairN ops E St Pu N k i = true
  okT : okPl ops E St Pu N t = true
  self : ∀ i, i < ops.size → selfOk ops i = true
  closed : ∀ j k, listed.getD j false = true → dep ops j k = true → listed.getD k false = true

theorem pairs_of (f : Nat → Nat → Bool) : ∀ c, okPairs f c = true → c.Pairwise fun k i => f k i = true
  | [], _ => .nil
  | k :: c, h => by
    simp only [okPairs, Bool.and_eq_true, List.all_eq_true] at h
    exact .cons h.1 (pairs_of f c h.2)

theorem closed_next {listed : Array Bool} (hcl : ∀ j k, listed.getD j false = true → dep ops j k = true → listed.getD k false = true) {i : Nat} (hi : i ∈ Region.ready .any ops listed) : ∀ j k, (listed.setIfInBounds i true).getD j false = true → dep ops j k = true → (listed.setIfInBounds i true).getD k false = true := fun j k hj hd => by
  by_cases hji : i = j
  · subst hji
    obtain ⟨o, ho, e, he, hb, rfl⟩ := dep_iff.1 hd
    obtain ⟨_, o', ho', hall⟩ := mem_ready.1 hi
    rw [ho] at ho'
    cases ho'
    exact getD_set_true (hall e he hb)
  · rw [getD_set_ne false hji] at hj
    exact getD_set_true (hcl j k hj hd)

/-- What is left behind an operation. -/
theorem mem_next {listed : Array Bool} (hsz : listed.size = ops.size) {F G : List Nat} (hF : ∀ j, j ∈ F ↔ j < ops.size ∧ listed.getD j true = false) {i : Nat} (hi : i ∈ F) (hG : ∀ j, j ∈ G ↔ j ∈ F ∧ j ≠ i) : ∀ j, j ∈ G ↔ j < ops.size ∧ (listed.setIfInBounds i true).getD j true = false := fun j => by
  have hlt := ((hF i).1 hi).1
  rw [hG j]
  by_cases hji : i = j
  · subst hji
    simp [hsz, hlt]
  · rw [getD_set_ne true hji, hF j]
    simp [Ne.symm hji]

theorem ready_of_head {listed : Array Bool} (hsz : listed.size = ops.size) {k : Nat} {F : List Nat} (hF : ∀ j, j ∈ k :: F ↔ j < ops.size ∧ listed.getD j true = false) (hs : selfOk ops k = true) (hd : ∀ j ∈ F, dep ops k j = false) : k ∈ Region.ready .any ops listed := by
  obtain ⟨h1, h2⟩ := (hF k).1 (by simp)
  rw [mem_ready]
  refine ⟨h2, ops[k], by simp [h1], fun e he hb => ?_⟩
  simp only [selfOk, h1, Array.getElem?_eq_getElem, Array.all_eq_true_iff_forall_mem] at hs
  have hs1 := hs e he
  simp only [hb, Bool.not_true, Bool.false_or, Bool.and_eq_true, bne_iff_ne, decide_eq_true_eq] at hs1
  cases hx : listed.getD e.on false with
  | true => rfl
  | false =>
    have hm : e.on ∈ k :: F := (hF e.on).2 ⟨hs1.2, by rw [getD_ft (by rw [hsz]; exact hs1.2) true false]; exact hx⟩
    rcases List.mem_cons.1 hm with hm | hm
    · exact absurd hm hs1.1
    · have hdd : dep ops k e.on = true := dep_iff.2 ⟨ops[k], by simp [h1], e, he, hb, rfl⟩
      rw [hd _ hm] at hdd
      cases hdd

theorem plan_any (hsel : ∀ (j : Nat) (o : Oper) cs b, ops[j]? = some o → o.op ≠ .select cs b) (hQ : ∀ c a a' w, Q (.panic c) a w → Q (.panic c) a' w) (hXr : ∀ w, X w w) (hXt : ∀ a b c, X a b → X b c → X a c) (hSx : ∀ w w', S w → X w w' → S w') :
    ∀ (fuel : Nat) (c : List Nat) (t : Pl) (listed : Array Bool) (a : Act) (w0 w : World), (c ++ t.fl).length ≤ fuel → GoodP ops E St Pu N c t listed → Can P X ops (qOf P X ops Q S E St Pu N t) S E St Pu N c a w0 → X w0 w → ((∃ k ∈ c ++ t.fl, St k = true ∧ Pu k = false) → S w) → wpAny P .any ops Q fuel listed a w := by
  intro fuel
  induction fuel with
  | zero =>
    intro c t listed a w0 w hl g h hx hS
    have hnil : c ++ t.fl = [] := List.eq_nil_of_length_eq_zero (by omega)
    obtain ⟨rfl, ht⟩ := List.append_eq_nil_iff.1 hnil
    have ht2 : t = .nil := by
      cases t with
      | nil => rfl
      | two c1 t1 c2 t2 =>
        have := g.okT
        cases c1 with
        | nil => simp [okPl] at this
        | cons k1 d1 => simp [Pl.fl] at ht
    subst ht2
    refine ⟨?_, h w hx⟩
    rw [List.eq_nil_iff_forall_not_mem]
    intro i hi
    obtain ⟨h1, o, ho, _⟩ := mem_ready.1 hi
    have := (g.mem i).2 ⟨(Array.getElem?_eq_some_iff.1 ho).1, h1⟩
    simp [Pl.fl] at this
  | succ fuel ih =>
    intro c t listed a w0 w hl g h hx hS
    have hready : ∀ i ∈ Region.ready .any ops listed, i ∈ c ++ t.fl := fun i hi => by
      obtain ⟨h1, o, ho, _⟩ := mem_ready.1 hi
      exact (g.mem i).2 ⟨(Array.getElem?_eq_some_iff.1 ho).1, h1⟩
    have inC : ∀ i ∈ Region.ready .any ops listed, i ∈ c → wpOp P ops Q i (wpAny P .any ops Q fuel (listed.setIfInBounds i true)) a w := fun i hi hic => by
      obtain ⟨r1, r2, rfl⟩ := List.append_of_mem hic
      have hpw := g.pair
      rw [List.pairwise_append] at hpw
      obtain ⟨p1, p2, p3⟩ := hpw
      obtain ⟨p4, p5⟩ := List.pairwise_cons.1 p2
      have hcore : ∀ x y, pairCore ops E St x y = true → x ≠ y := fun x y hxy e => by
        subst e
        simp [pairCore] at hxy
      refine step_any (fs := t.fl) hsel hQ hXr hXt hSx (agree_qOf t) hi g.size g.closed (fun k hk => (g.mem k).1 (by simp [hk])) (fun k hk => p3 k hk i (by simp)) (fun k hk => ?_) (fun _ _ _ _ => trivial) h hx hS ?_
      · rcases List.mem_append.1 hk with hk | hk
        · exact (p4 k hk).2
        · exact (g.pairT i (by simp) k hk).2
      · intro a' w0' w' h' hx' hS'
        refine ih (r1 ++ r2) t _ a' w0' w' (by simp at hl ⊢; omega) ⟨by simp [g.size], mem_next g.size g.mem (by simp) (fun j => ?_), g.pair.sublist (List.Sublist.append_left (List.sublist_cons_self i r2) r1), fun k hk => g.pairT k (by simp only [List.mem_append, List.mem_cons] at hk ⊢; rcases hk with hk | hk <;> simp [hk]), g.okT, g.self, closed_next g.closed hi⟩ h' hx' hS'
        simp only [List.mem_append, List.mem_cons]
        constructor
        · rintro ((h1 | h1) | h1)
          · exact ⟨by simp [h1], fun e => hcore _ _ (p3 j h1 i (by simp)).1 e⟩
          · exact ⟨by simp [h1], fun e => hcore _ _ (p4 j h1).1 e.symm⟩
          · exact ⟨by simp [h1], fun e => hcore _ _ (g.pairT i (by simp) j h1).1 e.symm⟩
        · rintro ⟨(h1 | rfl | h1) | h1, h2⟩
          · exact .inl (.inl h1)
          · exact absurd rfl h2
          · exact .inl (.inr h1)
          · exact .inr h1
    have coreDep : ∀ x y, pairCore ops E St x y = true → dep ops x y = false := fun x y hxy => by
      simp only [pairCore, Bool.and_eq_true, Bool.not_eq_true'] at hxy
      exact hxy.1.1
    cases t with
    | nil =>
      refine ⟨fun h0 => ?_, fun i hi => inC i hi (by simpa [Pl.fl] using hready i hi)⟩
      cases c with
      | nil => exact h w hx
      | cons k c =>
        have hm := g.mem
        simp only [Pl.fl, List.append_nil] at hm
        have := ready_of_head g.size hm (g.self k ((hm k).1 (by simp)).1) (fun j hj => coreDep _ _ ((List.pairwise_cons.1 g.pair).1 j hj).1)
        rw [h0] at this
        simp at this
    | two c1 t1 c2 t2 =>
      have hok := g.okT
      cases c1 with
      | nil => simp [okPl] at hok
      | cons k1 d1 =>
      cases c2 with
      | nil => simp [okPl] at hok
      | cons k2 d2 =>
      simp only [okPl, Bool.and_eq_true, List.all_eq_true, decide_eq_true_eq, bne_iff_ne] at hok
      obtain ⟨⟨⟨⟨⟨⟨⟨⟨⟨⟨⟨⟨⟨o1, o2⟩, o3⟩, o4⟩, o5⟩, o6⟩, o7⟩, o8⟩, o9⟩, o10⟩, o11⟩, o12⟩, o13⟩, o14⟩ := hok
      have hfl : (Pl.two (k1 :: d1) t1 (k2 :: d2) t2).fl = k1 :: (d1 ++ t1.fl) := rfl
      have s2 : ∀ j, j ∈ d2 ++ t2.fl → j ∈ k1 :: (d1 ++ t1.fl) := fun j hj => by
        have := o5 j hj
        rw [Bool.or_eq_true, beq_iff_eq, List.contains_iff_mem] at this
        rcases this with rfl | h
        · simp
        · exact List.mem_cons_of_mem _ h
      have hk2m : k2 ∈ d1 ++ t1.fl := by rw [← List.contains_iff_mem]; exact o6
      have hk1m : k1 ∈ d2 ++ t2.fl := by rw [← List.contains_iff_mem]; exact o7
      have nk1 : ∀ j ∈ d1 ++ t1.fl, k1 ≠ j := fun j hj => by
        have := o2 j hj
        simp only [headB, Bool.and_eq_true, bne_iff_ne] at this
        exact this.1.1.1
      have nk2 : ∀ j ∈ d2 ++ t2.fl, k2 ≠ j := fun j hj => by
        have := o3 j hj
        simp only [headB, Bool.and_eq_true, bne_iff_ne] at this
        exact this.1.1.1
      have s1 : ∀ j, j ∈ d1 ++ t1.fl → j ≠ k2 → j ∈ d2 ++ t2.fl := fun j hj hne => by
        have := o4 j hj
        rw [Bool.or_eq_true, beq_iff_eq, List.contains_iff_mem] at this
        exact this.resolve_left hne
      have hcore : ∀ x y, pairCore ops E St x y = true → x ≠ y := fun x y hxy e => by
        subst e
        simp [pairCore] at hxy
      have PB : ∀ {k i : Nat}, pairB ops E St Pu N k i = true → pairCore ops E St k i = true ∧ pairN ops E St Pu N k i = true := fun h => by
        simpa only [pairB, Bool.and_eq_true] using h
      have hmem := g.mem
      rw [hfl] at hmem
      have hpT := g.pairT
      rw [hfl] at hpT
      rw [hfl] at hl hS
      have branch : ∀ (k k' : Nat) (d : List Nat) (tt : Pl), k ∈ k1 :: (d1 ++ t1.fl) → (∀ j, j ∈ d ++ tt.fl ↔ j ∈ k1 :: (d1 ++ t1.fl) ∧ j ≠ k) → (d ++ tt.fl).length = (d1 ++ t1.fl).length → (∀ j ∈ d ++ tt.fl, pairN ops E St Pu N k j = true) → okPairs (pairB ops E St Pu N) d = true → (∀ x ∈ d, ∀ y ∈ tt.fl, pairB ops E St Pu N x y = true) → okPl ops E St Pu N tt = true →
          (∀ a w, (qOf P X ops Q S E St Pu N (.two (k1 :: d1) t1 (k2 :: d2) t2)) .normal a w → Can P X ops (qOf P X ops Q S E St Pu N tt) S E St Pu N (k :: d) a w) → k ∈ Region.ready .any ops listed → wpOp P ops Q k (wpAny P .any ops Q fuel (listed.setIfInBounds k true)) a w := by
        intro k k' d tt hkm hset hlen hN hpd hpdt hot hq hki
        have hc := can_append (r := k :: d) hXr (fun e he => ((agree_qOf _) e he).trans ((agree_qOf (P := P) (X := X) (ops := ops) (Q := Q) (S := S) (E := E) (St := St) (Pu := Pu) (N := N) tt) e he).symm) c a w0 h hq
        have hsub : ∀ j, j ∈ d ++ tt.fl → j ∈ k1 :: (d1 ++ t1.fl) := fun j hj => ((hset j).1 hj).1
        refine step_any (fs := tt.fl) hsel hQ hXr hXt hSx (agree_qOf tt) hki g.size g.closed (fun x hx => (hmem x).1 (by simp [hx])) (fun x hx => hpT x hx k hkm) hN (fun _ _ _ _ => trivial) hc hx (fun ⟨x, hx1, hx2⟩ => hS ⟨x, ?_, hx2⟩) ?_
        · simp only [List.append_assoc, List.cons_append] at hx1
          rcases List.mem_append.1 hx1 with h1 | h1
          · exact List.mem_append_left _ h1
          · refine List.mem_append_right _ ?_
            rcases List.mem_cons.1 h1 with rfl | h1
            · exact hkm
            · exact hsub x h1
        · intro a' w0' w' h' hx' hS'
          refine ih (c ++ d) tt _ a' w0' w' ?_ ⟨by simp [g.size], mem_next g.size hmem (List.mem_append_right _ hkm) (fun j => ?_), ?_, ?_, hot, g.self, closed_next g.closed hki⟩ h' hx' hS'
          · simp only [List.append_assoc, List.length_append, List.length_cons] at hl hlen ⊢
            omega
          · rw [List.append_assoc, List.mem_append, hset j, List.mem_append]
            constructor
            · rintro (h1 | ⟨h1, h2⟩)
              · exact ⟨.inl h1, hcore _ _ (hpT j h1 k hkm).1⟩
              · exact ⟨.inr h1, h2⟩
            · rintro ⟨h1 | h1, h2⟩
              · exact .inl h1
              · exact .inr ⟨h1, h2⟩
          · rw [List.pairwise_append]
            exact ⟨g.pair, (pairs_of _ d hpd).imp PB, fun x hx1 y hy1 => hpT x hx1 y (hsub y (List.mem_append_left _ hy1))⟩
          · intro x hx1 y hy1
            rcases List.mem_append.1 hx1 with h1 | h1
            · exact hpT x h1 y (hsub y (List.mem_append_right _ hy1))
            · exact PB (hpdt x h1 y hy1)
      refine ⟨fun h0 => ?_, fun i hi => ?_⟩
      · exfalso
        cases c with
        | nil =>
          have := ready_of_head (F := d1 ++ t1.fl) g.size hmem (g.self k1 ((hmem k1).1 (by simp)).1) (fun j hj => by
            have := o2 j hj
            simp only [headB, Bool.and_eq_true, Bool.not_eq_true'] at this
            exact this.1.1.2)
          rw [h0] at this
          simp at this
        | cons k c =>
          have := ready_of_head (F := c ++ (k1 :: (d1 ++ t1.fl))) g.size hmem (g.self k ((hmem k).1 (by simp)).1) (fun j hj => by
            rcases List.mem_append.1 hj with h1 | h1
            · exact coreDep _ _ ((List.pairwise_cons.1 g.pair).1 j h1).1
            · exact coreDep _ _ (hpT k (by simp) j h1).1)
          rw [h0] at this
          simp at this
      · have hm := hready i hi
        rw [hfl] at hm
        rcases List.mem_append.1 hm with hm | hm
        · exact inC i hi hm
        · have left : i = k1 → wpOp P ops Q i (wpAny P .any ops Q fuel (listed.setIfInBounds i true)) a w := fun e => by
            subst e
            exact branch i k2 d1 t1 (by simp) (fun j => ⟨fun hj => ⟨List.mem_cons_of_mem _ hj, (nk1 j hj).symm⟩, fun ⟨hj, hn⟩ => (List.mem_cons.1 hj).resolve_left hn⟩) rfl (fun j hj => by
              have := o2 j hj
              simp only [headB, Bool.and_eq_true] at this
              exact this.2) o9 o10 o13 (fun a w h => h.1) hi
          have right : i = k2 → wpOp P ops Q i (wpAny P .any ops Q fuel (listed.setIfInBounds i true)) a w := fun e => by
            subst e
            exact branch i k1 d2 t2 (List.mem_cons_of_mem _ hk2m) (fun j => ⟨fun hj => ⟨s2 j hj, (nk2 j hj).symm⟩, fun ⟨hj, hn⟩ => by
              rcases List.mem_cons.1 hj with rfl | hj
              · exact hk1m
              · exact s1 j hj hn⟩) o8.symm (fun j hj => by
              have := o3 j hj
              simp only [headB, Bool.and_eq_true] at this
              exact this.2) o11 o12 o14 (fun a w h => h.2) hi
          rcases List.mem_cons.1 hm with e | hm
          · exact left e
          · have := o2 i hm
            simp only [headB, Bool.and_eq_true, Bool.or_eq_true, beq_iff_eq] at this
            rcases this.1.2 with (e | hb) | hb
            · exact right e
            · exact left (blk_ready' g.size g.closed ((hmem k1).1 (by simp)) hi hb)
            · exact right (blk_ready' g.size g.closed ((hmem k2).1 (List.mem_append_right _ (List.mem_cons_of_mem _ hk2m))) hi hb)

def planOk (ops : Array Oper) (E St Pu N c : List Nat) (t : Pl) : Bool :=
  Region.noSelect ops && decide ((c ++ t.fl).length = ops.size) && (List.range ops.size).all ((c ++ t.fl).contains ·) && (c ++ t.fl).all (fun i => decide (i < ops.size)) && (List.range ops.size).all (fun i => selfOk ops i) &&
  okPairs (pairB ops (E.contains ·) (St.contains ·) (Pu.contains ·) (N.contains ·)) c && c.all (fun k => t.fl.all (pairB ops (E.contains ·) (St.contains ·) (Pu.contains ·) (N.contains ·) k)) && okPl ops (E.contains ·) (St.contains ·) (Pu.contains ·) (N.contains ·) t

theorem wp_region_plan {id : Nat} {a : Act} {w : World} (E St Pu N c : List Nat) (t : Pl) (S : World → Prop) (hm : P.follows .mixedOrders = true) (hc : planOk ops E St Pu N c t = true)
    (hS : S w.drew) (h : Can P One ops (qOf P One ops (Calm Q) S (E.contains ·) (St.contains ·) (Pu.contains ·) (N.contains ·) t) S (E.contains ·) (St.contains ·) (Pu.contains ·) (N.contains ·) c a w.drew) : (Code.region id ops true).wp P Q a w := by
  simp only [planOk, Bool.and_eq_true, decide_eq_true_eq, List.all_eq_true, List.mem_range] at hc
  obtain ⟨⟨⟨⟨⟨⟨⟨c1, c2⟩, c3⟩, c4⟩, c5⟩, c6⟩, c7⟩, c8⟩ := hc
  refine Code.wp_mono calm_imp (wp_region_any hm (plan_any (E := (E.contains ·)) (St := (St.contains ·)) (Pu := (Pu.contains ·)) (N := (N.contains ·)) (S := S) (X := One) (Region.noSelect_spec c1) (fun _ _ _ _ h => h) (fun _ => rfl) (fun _ _ _ h k => k.trans h) (fun _ _ h k => by rw [show _ = _ from k]; exact h) ops.size c t _ a w.drew w.drew (Nat.le_of_eq c2) ?_ h rfl (fun _ => hS)))
  refine ⟨by simp, fun i => ?_, (pairs_of _ c c6).imp (fun h => by simpa only [pairB, Bool.and_eq_true] using h), fun k hk i hi => by simpa only [pairB, Bool.and_eq_true] using c7 k hk i hi, c8, c5, fun j k hj => ?_⟩
  · constructor
    · intro hi
      exact ⟨c4 i hi, by simp [c4 i hi]⟩
    · rintro ⟨hi, _⟩
      have := c3 i hi
      rwa [List.contains_iff_mem] at this
  · by_cases hlt : j < ops.size
    · simp [hlt] at hj
    · simp [hlt] at hj

theorem can_two {l : List Oper} {c1 c2 : List Nat} {t1 t2 : Pl} {a : Act} {w : World} (h1 : Can P One l.toArray (qOf P One l.toArray Q S E St Pu N t1) S E St Pu N c1 a w) (h2 : Can P One l.toArray (qOf P One l.toArray Q S E St Pu N t2) S E St Pu N c2 a w) :
    Can P One l.toArray (qOf P One l.toArray Q S E St Pu N (.two c1 t1 c2 t2)) S E St Pu N [] a w := fun w2 hx => by
  have : w2 = w := hx
  subst this
  exact ⟨h1, h2⟩
end
end Go.Sl
