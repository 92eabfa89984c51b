
/-
  WireTries: what is logged, try by try: the plain law.
-/
import Derived.Test.YtekbbpfnkbanjaaGreatDoorWdA
import Derived.Test.YtekbbpfnkbanjaaGreatDoorNkA
namespace Go.Proofs.YtekbbpfnkbanjaaGreatDoor.Ch
set_option linter.unusedSimpArgs false
open Go Go.RowKit Go.Sl Go.BigFrame
set_option linter.unusedVariables false

def logq (X : It) : Rq := ⟨3, X.stripe, X.gen, 0, X.data⟩
theorem doR_log {X : It} {n n' : Nd} {p : Rp} (h : DoR (logq X) n n' p) : ∃ code, LogR X n n' code ∧ p = ⟨code, [], []⟩ := by
  rcases h with ⟨h, _⟩ | ⟨h, _⟩ | ⟨_, code, h1, h2⟩ | ⟨h, _⟩ | ⟨h, _⟩ | ⟨h, _⟩ | ⟨h, _⟩
  · exact absurd h (show ¬ (3 : Int) = 1 by decide)
  · exact absurd h (show ¬ (3 : Int) = 2 by decide)
  · exact ⟨code, h1, h2⟩
  · exact absurd h (show ¬ (3 : Int) = 4 by decide)
  · exact absurd h (show ¬ (3 : Int) = 5 by decide)
  · exact absurd h (show ¬ (3 : Int) = 6 by decide)
  · exact absurd h (show ¬ ((3 : Int) < 1 ∨ (6 : Int) < 3) by decide)
/-- A node whose ring holds ls from the lowest slot on, of which nothing is flushed. -/
structure TNode (n : Nd) (ls : List Sl5) : Prop where
  g : n.g = ⟨ls ++ List.replicate (16 - ls.length) sl0, ls.length + 1⟩
  le : ls.length ≤ 16
  live : ∀ s ∈ ls, s.live = true
  done : n.q.done = List.replicate 96 zero160
theorem freeS_app : ∀ (ls r : List Sl5) (k : Int), (∀ s ∈ ls, s.live = true) → freeS (ls ++ sl0 :: r) k = k + ls.length
  | [], r, k, h => by simp [freeS, sl0]
  | s :: ls, r, k, h => by
    have hs := h s (by simp)
    have ih := freeS_app ls r (k + 1) (fun x hx => h x (by simp [hx]))
    simp only [List.cons_append, freeS, hs, if_true, ih, List.length_cons]
    omega
theorem hasI_app {ls : List Sl5} {m : Nat} {X : It} : hasI (ls ++ List.replicate m sl0) X → ∃ s ∈ ls, s.i = X := by
  rintro ⟨s, hs, hl, hi⟩
  rcases List.mem_append.1 hs with h | h
  · exact ⟨s, h, hi⟩
  · rw [(List.mem_replicate.1 h).2] at hl
    cases hl
theorem log_tn {X : It} {n n' : Nd} {code : Int} {ls : List Sl5} (h : LogR X n n' code) (hp : rightI X) (ht : TNode n ls) (hl : ls.length ≤ 15) :
    code = 0 ∧ hasI n'.g.slots X ∧ ∃ ls', TNode n' ls' ∧ ((hasI n.g.slots X ∧ ls' = ls) ∨ ls'.length = ls.length + 1) := by
  obtain ⟨hg, hle, hlv, hdn⟩ := ht
  obtain ⟨r, hr⟩ : ∃ r, 16 - ls.length = r + 1 := ⟨16 - ls.length - 1, by omega⟩
  have hf : freeS n.g.slots 0 = ls.length := by
    rw [hg]
    simp only [hr, List.replicate_succ]
    rw [freeS_app ls _ 0 hlv]
    omega
  have hn : n.g.next = ls.length + 1 := by rw [hg]
  rcases h with ⟨h, _⟩ | ⟨_, h, rfl, rfl⟩ | ⟨_, _, h, _⟩ | ⟨_, h, _, rfl, k, hk, hk2, rfl⟩
  · exact absurd hp h
  · exact ⟨rfl, h, ls, ⟨hg, hle, hlv, hdn⟩, .inl ⟨h, rfl⟩⟩
  · omega
  · obtain rfl : k = ls.length := by omega
    refine ⟨rfl, ⟨⟨true, n.g.next, X⟩, ?_, rfl, rfl⟩, ls ++ [⟨true, n.g.next, X⟩], ⟨?_, by simp; omega, ?_, hdn⟩, .inr (by simp)⟩
    · show _ ∈ n.g.slots.set ls.length _
      rw [hg]
      simp only [hr, List.replicate_succ]
      rw [List.set_append_right _ _ (Nat.le_refl _), Nat.sub_self]
      simp
    · show (⟨n.g.slots.set ls.length _, n.g.next + 1⟩ : Rg) = _
      rw [hn, hg]
      have e2 : 16 - (ls ++ [(⟨true, (ls.length : Int) + 1, X⟩ : Sl5)]).length = r := by simp; omega
      rw [e2]
      simp only [hr, List.replicate_succ]
      rw [List.set_append_right _ _ (Nat.le_refl _), Nat.sub_self]
      simp [List.append_assoc]
    · intro s hs
      rcases List.mem_append.1 hs with h | h
      · exact hlv s h
      · rw [List.mem_singleton.1 h]
theorem crashTo_nil (d : List (List UInt8)) (pend : List (Nat × List UInt8)) : ∀ k, crashTo [] d pend k = d
  | 0 => rfl
  | k + 1 => by
    unfold crashTo
    split
    · rw [if_neg (by simp)]
      exact crashTo_nil d pend k
    · exact crashTo_nil d pend k
theorem crash_tn {n : Nd} {ls : List Sl5} (ht : TNode n ls) : TNode (n.crash []) [] := by
  have hq : n.q.crash [] = ⟨List.replicate 96 zero160, List.replicate 96 zero160, [], n.q.writes⟩ := by
    unfold Pt.crash
    rw [crashTo_nil, ht.done]
  refine ⟨?_, by simp, (fun s hs => by cases hs), ?_⟩
  · show openRg (n.q.crash []) = _
    rw [hq]
    unfold openRg
    rw [sl_blank, nx_blank _ (fun k hk => blk_rep 96 k _ _ _ (by omega)) 16 (by omega)]
    rfl
  · show (n.q.crash []).done = _
    rw [hq]
theorem tn_start : TNode nd0 [] := by
  refine ⟨?_, by simp, (fun s hs => by cases hs), rfl⟩
  have h1 := nd0_slots
  have h2 := nd0_next
  have e : nd0.g = ⟨nd0.g.slots, nd0.g.next⟩ := rfl
  rw [e, h1, h2]
  rfl
/-- A node that is being asked: of at most i intents, and this one. -/
def Pn (n : Nd) (i : Nat) (X : It) : Prop := ∃ ls, TNode n ls ∧ (ls.length ≤ i ∨ (hasI n.g.slots X ∧ ls.length ≤ i + 1))
theorem Pn.log {n n' : Nd} {i : Nat} {X : It} {code : Int} (hp : rightI X) (hi : i ≤ 14) (h : Pn n i X) (hl : LogR X n n' code) : code = 0 ∧ hasI n'.g.slots X ∧ Pn n' i X := by
  obtain ⟨ls, ht, hc⟩ := h
  obtain ⟨h0, h1, ls', h2, h3⟩ := log_tn hl hp ht (by rcases hc with h | h <;> omega)
  refine ⟨h0, h1, ls', h2, .inr ⟨h1, ?_⟩⟩
  rcases h3 with ⟨h4, rfl⟩ | h4
  · rcases hc with h | h <;> omega
  · rcases hc with h | ⟨h, _⟩
    · omega
    · -- it is there already: nothing is logged
      rcases hl with ⟨h5, _⟩ | ⟨_, _, _, rfl⟩ | ⟨_, h5, _⟩ | ⟨_, h5, _⟩
      · exact absurd hp h5
      · have e : ls' = ls ∨ ls'.length = ls.length := by
          have e1 := h2.g
          rw [ht.g] at e1
          injection e1 with _ e3
          right
          omega
        rcases e with rfl | e <;> omega
      · exact absurd h h5
      · exact absurd h h5
theorem Pn.crash {n : Nd} {i : Nat} {X : It} (h : Pn n i X) : Pn (n.crash []) i X := by
  obtain ⟨ls, ht, _⟩ := h
  exact ⟨[], crash_tn ht, .inl (Nat.zero_le _)⟩
structure TOk (x : Wr) (k i : Nat) (X : It) : Prop where
  dead : x.dead = false
  fuse : x.fuse = -1
  down : x.down = List.replicate 8 false
  len : x.ns.length = 8
  at_ : ∀ (b : Nat) (n : Nd), x.ns[k]? = some (b, n) → Pn n i X
  oth : ∀ (j b : Nat) (n : Nd), j ≠ k → x.ns[j]? = some (b, n) → ∃ ls, TNode n ls ∧ ls.length ≤ i
theorem TOk.put {x : Wr} {k i b : Nat} {X : It} {n : Nd} (h : TOk x k i X) (hn : Pn n i X) : TOk (x.tick.put k b n) k i X := by
  refine ⟨h.dead, h.fuse, h.down, ?_, ?_, ?_⟩
  · show (x.ns.set k _).length = 8
    rw [List.length_set]
    exact h.len
  · intro b' n' hk
    have hk : (x.ns.set k (b, n))[k]? = some (b', n') := hk
    rw [List.getElem?_set] at hk
    simp only [if_true] at hk
    split at hk
    · cases hk; exact hn
    · cases hk
  · intro j b' n' hj hk
    have hk : (x.ns.set k (b, n))[j]? = some (b', n') := hk
    rw [List.getElem?_set_ne (fun e => hj e.symm)] at hk
    exact h.oth j b' n' hj hk
theorem TOk.tick {x : Wr} {k i : Nat} {X : It} (h : TOk x k i X) : TOk x.tick k i X := ⟨h.dead, h.fuse, h.down, h.len, h.at_, h.oth⟩
theorem send_tok {x x' : Wr} {k i : Nat} {X : It} (hp : rightI X) (hi : i ≤ 14) (h : TOk x k i X) : ∀ {c}, SendR k (logq X) x x' c → TOk x' k i X ∧ x'.sent = x.sent + 1 ∧ ∀ d, c = some d → d.2.code = 0 ∧ ∃ b n, x'.ns[k]? = some (b, n) ∧ hasI n.g.slots X
  | none, hs => by
    rcases hs with ⟨_, rfl⟩ | ⟨_, b, n, n', p, hk, hd, rfl⟩
    · exact ⟨h.tick, rfl, fun d hd => by cases hd⟩
    · obtain ⟨code, hl, rfl⟩ := doR_log hd
      obtain ⟨_, h1, h2⟩ := (h.at_ b n hk).log hp hi hl
      exact ⟨h.put h2, rfl, fun d hd => by cases hd⟩
  | some d, hs => by
    obtain ⟨_, _, b, n, n1, n', hk, hn1, _, hd, rfl⟩ := hs
    obtain ⟨code, hl, hpc⟩ := doR_log hd
    have hn : Pn n1 i X := by
      rw [hn1]
      split
      · exact (h.at_ b n hk).crash
      · exact h.at_ b n hk
    obtain ⟨h0, h1, h2⟩ := hn.log hp hi hl
    refine ⟨h.put h2, rfl, fun d' hd' => ?_⟩
    obtain rfl : d = d' := Option.some.inj hd'
    refine ⟨by rw [hpc]; exact h0, b, n', ?_, h1⟩
    show (x.ns.set k (b, n'))[k]? = _
    rw [List.getElem?_set]
    simp only [if_true]
    rw [if_pos (List.getElem?_eq_some_iff.1 hk).1]
theorem tries_law {k i : Nat} {X : It} (hp : rightI X) (hi : i ≤ 14) (hk8 : k < 8) : ∀ (t : Nat) {x x' : Wr} {r : WR}, TOk x k i X → TryR k (logq X) t x x' r →
    TOk x' k i X ∧ ((∃ c, r = .err c ∧ c = 5 ∧ x'.sent = x.sent + t) ∨ ∃ boot p, r = .ok boot p ∧ x.sent + 1 ≤ x'.sent ∧ x'.sent ≤ x.sent + t ∧ ∃ b n, x'.ns[k]? = some (b, n) ∧ hasI n.g.slots X)
  | 0, x, x', r, h, hr => by
    obtain ⟨rfl, rfl⟩ := hr
    exact ⟨h, .inl ⟨5, rfl, rfl, by omega⟩⟩
  | t + 1, x, x', r, h, hr => by
    have hdk : x.down[k]? = some false := by rw [h.down, List.getElem?_replicate, if_pos hk8]
    obtain ⟨y, ⟨hs, ht⟩ | ⟨boot, p, hs, rfl, hc⟩⟩ := try_step h.dead hdk h.fuse hr
    · obtain ⟨h1, h2, _⟩ := send_tok hp hi h hs
      obtain ⟨h3, h4⟩ := tries_law hp hi hk8 t h1 ht
      refine ⟨h3, ?_⟩
      rcases h4 with ⟨c, rfl, rfl, h5⟩ | ⟨boot, p, rfl, h5, h6, h7⟩
      · exact .inl ⟨5, rfl, rfl, by rw [h5, h2]; push_cast; omega⟩
      · exact .inr ⟨boot, p, rfl, by omega, by push_cast; omega, h7⟩
    · obtain ⟨h1, h2, h3⟩ := send_tok hp hi h hs
      obtain ⟨h4, h5⟩ := h3 _ rfl
      rcases hc with ⟨_, rfl⟩ | ⟨h6, _⟩
      · exact ⟨h1, .inr ⟨boot, p, rfl, by omega, by push_cast; omega, h5⟩⟩
      · exact absurd h4 h6
/-- Between two calls. -/
structure TAll (x : Wr) (i : Nat) : Prop where
  dead : x.dead = false
  fuse : x.fuse = -1
  down : x.down = List.replicate 8 false
  len : x.ns.length = 8
  all : ∀ (j b : Nat) (n : Nd), x.ns[j]? = some (b, n) → ∃ ls, TNode n ls ∧ ls.length ≤ i
theorem TAll.ok {x : Wr} {i : Nat} (h : TAll x i) (k : Nat) (X : It) : TOk x k i X :=
  ⟨h.dead, h.fuse, h.down, h.len, fun b n hk => by obtain ⟨ls, h1, h2⟩ := h.all k b n hk; exact ⟨ls, h1, .inl h2⟩, fun j b n _ hj => h.all j b n hj⟩
theorem TOk.next {x : Wr} {k i : Nat} {X : It} (h : TOk x k i X) : TAll x (i + 1) :=
  ⟨h.dead, h.fuse, h.down, h.len, fun j b n hj => by
    by_cases e : j = k
    · subst e
      obtain ⟨ls, h1, h2 | ⟨_, h2⟩⟩ := h.at_ b n hj
      · exact ⟨ls, h1, by omega⟩
      · exact ⟨ls, h1, h2⟩
    · obtain ⟨ls, h1, h2⟩ := h.oth j b n e hj
      exact ⟨ls, h1, by omega⟩⟩
theorem tall_start {ps : List (Nat × Nd)} (hl : ps.length = 8) (hall : ∀ p ∈ ps, p.2 = nd0) (fs : List Int) : TAll { wr0 ps with fates := fs } 0 :=
  ⟨rfl, rfl, rfl, hl, fun j b n hj => by
    have := hall _ (List.mem_of_getElem? hj)
    simp only at this
    rw [this]
    exact ⟨[], tn_start, Nat.le_refl _⟩⟩
end Go.Proofs.YtekbbpfnkbanjaaGreatDoor.Ch
