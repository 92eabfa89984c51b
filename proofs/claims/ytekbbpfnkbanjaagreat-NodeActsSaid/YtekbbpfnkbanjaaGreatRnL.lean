
/-
  The ring's numbers: they are apart, whatever is done. Plain.
-/
import Derived.Test.YtekbbpfnkbanjaaGreatRnK
import Derived.Test.YtekbbpfnkbanjaaGreatMF
namespace Go.Proofs.YtekbbpfnkbanjaaGreat.Ch
open Go Go.RowKit Go.Sl Go.BigFrame
set_option linter.unusedVariables false
set_option linter.unusedSimpArgs false

/-- The number of a block of the ring; 0: it has none. -/
noncomputable def nb (l : List UInt8) : Int := if (readI l).live = true then (readI l).num else 0
theorem nb_pos (l : List UInt8) : 0 ≤ nb l := by
  unfold nb; split
  · exact (readI_num l).1
  · exact Int.le_refl _
theorem nb_zero : nb zero160 = 0 := by unfold nb; rw [readI_zero]; rfl
theorem nb_lay (no : Int) (i : It) (hp : rightI i) (h0 : 1 ≤ no) (h1 : no < 281474976710656) : nb (layI no i) = no := by
  unfold nb; rw [readI_lay no i hp h0 h1]; rfl
def RingD (d : List (List UInt8)) : Prop := ∀ (j k : Nat) (x y : List UInt8), 80 ≤ j → 80 ≤ k → d[j]? = some x → d[k]? = some y → 1 ≤ nb x → nb x = nb y → j = k
structure RingJ (pend : List (Nat × List UInt8)) (nx : Int) (d : List (List UInt8)) (k : Nat) : Prop where
  dd : RingD d
  dn : ∀ (j : Nat) x, 80 ≤ j → d[j]? = some x → nb x < nx
  pn : ∀ (i : Nat) x, k ≤ i → pend[i]? = some x → 80 ≤ x.1 → ∀ (j : Nat) y, 80 ≤ j → d[j]? = some y → nb y < nb x.2
theorem RingJ.skip {pend nx d k} (h : RingJ pend nx d k) : RingJ pend nx d (k + 1) := ⟨h.dd, h.dn, fun i x hi => h.pn i x (by omega)⟩
theorem RingJ.step {pend : List (Nat × List UInt8)} {nx : Int} {d : List (List UInt8)} {k : Nat} (h : RingJ pend nx d k) (x : Nat × List UInt8) (hx : pend[k]? = some x) (hn : 80 ≤ x.1 → nb x.2 < nx) (hp : pend.Pairwise (fun x y => 80 ≤ x.1 → 80 ≤ y.1 → nb x.2 < nb y.2)) : RingJ pend nx (d.set x.1 x.2) (k + 1) := by
  have hg : ∀ (j : Nat) y, 80 ≤ j → (d.set x.1 x.2)[j]? = some y → (80 ≤ x.1 ∧ j = x.1 ∧ y = x.2) ∨ (j ≠ x.1 ∧ d[j]? = some y) := by
    intro j y hj hy
    rw [List.getElem?_set] at hy
    by_cases e : x.1 = j
    · rw [if_pos e] at hy
      split at hy
      · injection hy with hy
        exact .inl ⟨by omega, e.symm, hy.symm⟩
      · cases hy
    · rw [if_neg e] at hy
      exact .inr ⟨fun h => e h.symm, hy⟩
  refine ⟨?_, ?_, ?_⟩
  · intro j k' a c hj hk ha hc h1 he
    rcases hg j a hj ha with ⟨q1, q2, rfl⟩ | ⟨q1, q2⟩ <;> rcases hg k' c hk hc with ⟨p1, p2, rfl⟩ | ⟨p1, p2⟩
    · omega
    · have := h.pn k x (Nat.le_refl _) hx q1 k' c hk p2; omega
    · have := h.pn k x (Nat.le_refl _) hx p1 j a hj q2; omega
    · exact h.dd j k' a c hj hk q2 p2 h1 he
  · intro j a hj ha
    rcases hg j a hj ha with ⟨q1, q2, rfl⟩ | ⟨q1, q2⟩
    · exact hn q1
    · exact h.dn j a hj q2
  · intro i z hi hz h80 j a hj ha
    rcases hg j a hj ha with ⟨q1, q2, rfl⟩ | ⟨q1, q2⟩
    · obtain ⟨hk, rfl⟩ := List.getElem?_eq_some_iff.1 hx
      obtain ⟨hi', rfl⟩ := List.getElem?_eq_some_iff.1 hz
      exact (List.pairwise_iff_getElem.1 hp) k i hk hi' (by omega) q1 h80
    · exact h.pn i z (by omega) hz h80 j a hj q2
theorem RingJ.crash {pend : List (Nat × List UInt8)} {nx : Int} {d : List (List UInt8)} (keep : List Int) (h : RingJ pend nx d 0) (hn : ∀ x ∈ pend, 80 ≤ x.1 → nb x.2 < nx) (hp : pend.Pairwise (fun x y => 80 ≤ x.1 → 80 ≤ y.1 → nb x.2 < nb y.2)) : ∀ k, RingJ pend nx (crashTo keep d pend k) k
  | 0 => h
  | k + 1 => by
    have ih := RingJ.crash keep h hn hp k
    unfold crashTo
    split
    · rename_i x hx
      split
      · exact ih.step x hx (hn x (List.mem_of_getElem? hx)) hp
      · exact ih.skip
    · exact ih.skip
theorem RingJ.app {pend : List (Nat × List UInt8)} {nx : Int} {d : List (List UInt8)} (h : RingJ pend nx d 0) (hn : ∀ x ∈ pend, 80 ≤ x.1 → nb x.2 < nx) (hp : pend.Pairwise (fun x y => 80 ≤ x.1 → 80 ≤ y.1 → nb x.2 < nb y.2)) : ∀ k, RingJ pend nx (appTo d pend k) k
  | 0 => h
  | k + 1 => by
    have ih := RingJ.app h hn hp k
    unfold appTo
    split
    · rename_i x hx
      exact ih.step x hx (hn x (List.mem_of_getElem? hx)) hp
    · exact ih.skip

/-- A node's numbers. -/
structure NumI (n : Nd) : Prop where
  dd : RingD n.q.done
  dn : ∀ (j : Nat) x, 80 ≤ j → n.q.done[j]? = some x → nb x < n.g.next
  pn : ∀ x ∈ n.q.pend, 80 ≤ x.1 → nb x.2 < n.g.next ∧ ∀ (j : Nat) y, 80 ≤ j → n.q.done[j]? = some y → nb y < nb x.2
  pp : n.q.pend.Pairwise (fun x y => 80 ≤ x.1 → 80 ≤ y.1 → nb x.2 < nb y.2)
  sd : NumD n.g.slots
  sn : ∀ s ∈ n.g.slots, s.live = true → s.num < n.g.next
theorem NumI.j {n : Nd} (h : NumI n) : RingJ n.q.pend n.g.next n.q.done 0 := ⟨h.dd, h.dn, fun i x _ hx h80 => (h.pn x (List.mem_of_getElem? hx) h80).2⟩
theorem Alike.nowOf {q : Pt} {r : Rt} (h : Alike q r) : q.now = appTo q.done q.pend q.pend.length := by
  rw [← h.now, ← h.done, ← h.pend]; rfl

theorem opSl_mem (q : Pt) : ∀ k, k ≤ 16 → ∀ (j : Nat) s, (opSl q k)[j]? = some s → s.live = true → j < k ∧ s = blkI q j
  | 0, _, j, s, h, hl => by
    rw [opSl, List.getElem?_replicate] at h
    split at h
    · injection h with h
      rw [← h] at hl
      cases hl
    · cases h
  | k + 1, hk, j, s, h, hl => by
    rw [opSl, List.getElem?_set] at h
    by_cases e : k = j
    · rw [if_pos e] at h
      split at h
      · injection h with h
        exact ⟨by omega, by rw [← h, e]⟩
      · cases h
    · rw [if_neg e] at h
      have := opSl_mem q k (by omega) j s h hl
      exact ⟨by omega, this.2⟩
theorem opNx_le (q : Pt) : ∀ k j, j < k → (blkI q j).num < opNx q k
  | 0, j, h => by omega
  | k + 1, j, h => by
    unfold opNx
    by_cases e : j = k
    · rw [e]; omega
    · have := opNx_le q k j (by omega); omega
theorem blk_done {q : Pt} (hn : q.now = q.done) (hl : q.done.length = 96) (k : Nat) (hk : k < 16) : ∃ x, q.done[80 + k]? = some x ∧ blkI q k = readI x := by
  refine ⟨_, List.getElem?_eq_getElem (by omega), ?_⟩
  unfold blkI
  rw [hn, List.getD_eq_getElem?_getD, List.getElem?_eq_getElem (by omega)]
  rfl
theorem numD_of {q : Pt} {ss : List Sl5} (h : RingD q.done) (hn : q.now = q.done) (hl : q.done.length = 96) (hok : ∀ s ∈ ss, SlOk s) (hm : ∀ (j : Nat) s, ss[j]? = some s → s.live = true → j < 16 ∧ s = blkI q j) : NumD ss := by
  intro x hx y hy lx ly he
  obtain ⟨j, hj⟩ := List.getElem?_of_mem hx
  obtain ⟨k, hk⟩ := List.getElem?_of_mem hy
  obtain ⟨j16, ex⟩ := hm j x hj lx
  obtain ⟨k16, ey⟩ := hm k y hk ly
  obtain ⟨a, ha, ea⟩ := blk_done hn hl j j16
  obtain ⟨c, hc, ec⟩ := blk_done hn hl k k16
  have e1 : nb a = x.num := by unfold nb; rw [← ea, ← ex, if_pos lx]
  have e2 : nb c = y.num := by unfold nb; rw [← ec, ← ey, if_pos ly]
  have h1 : 1 ≤ nb a := by
    rw [e1]
    rcases hok x hx with h0 | h0
    · rw [h0] at lx; cases lx
    · exact h0.2.1
  have := h (80 + j) (80 + k) a c (by omega) (by omega) ha hc h1 (by rw [e1, e2, he])
  have ejk : j = k := by omega
  subst ejk
  rw [ex, ey]
theorem numN_of {q : Pt} {ss : List Sl5} {nx : Int} (hx : ∀ j, j < 16 → (blkI q j).num < nx) (hm : ∀ (j : Nat) s, ss[j]? = some s → s.live = true → j < 16 ∧ s = blkI q j) : ∀ s ∈ ss, s.live = true → s.num < nx := by
  intro s hs ls
  obtain ⟨j, hj⟩ := List.getElem?_of_mem hs
  obtain ⟨j16, ex⟩ := hm j s hj ls
  rw [ex]
  exact hx j j16
theorem numB_of {q : Pt} {nx : Int} (hn : q.now = q.done) (hl : q.done.length = 96) (h1 : 1 ≤ nx) (hx : ∀ j, j < 16 → (blkI q j).num < nx) (j : Nat) (x : List UInt8) (hj : 80 ≤ j) (h : q.done[j]? = some x) : nb x < nx := by
  have hj96 := (List.getElem?_eq_some_iff.1 h).1
  obtain ⟨y, hy, he⟩ := blk_done hn hl (j - 80) (by omega)
  rw [show 80 + (j - 80) = j by omega, h] at hy
  injection hy with hy
  subst hy
  have h2 := hx (j - 80) (by omega)
  rw [he] at h2
  unfold nb
  split <;> omega
theorem NumI.open {q : Pt} {boot : Int} (h : RingD q.done) (hn : q.now = q.done) (hp : q.pend = []) (hl : q.done.length = 96) : NumI ⟨q, openRg q, boot⟩ := by
  have hd := numD_of h hn hl (opSl_ok q 16) (opSl_mem q 16 (Nat.le_refl _))
  have hs := numN_of (opNx_le q 16) (opSl_mem q 16 (Nat.le_refl _))
  have hb := numB_of hn hl (opNx_bounds q 16).1 (opNx_le q 16)
  unfold openRg
  generalize opSl q 16 = ss at *
  generalize opNx q 16 = nx at *
  exact ⟨h, hb, (fun x hx => by
    have hx : x ∈ q.pend := hx
    rw [hp] at hx
    cases hx), (by show q.pend.Pairwise _; rw [hp]; exact List.Pairwise.nil), hd, hs⟩
theorem NumI.crash {n : Nd} (h : NumI n) (keep : List Int) (hl : n.q.done.length = 96) : NumI (n.crash keep) :=
  NumI.open (h.j.crash keep (fun x hx h80 => (h.pn x hx h80).1) h.pp n.q.pend.length).dd rfl rfl (by show (crashTo _ _ _ _).length = 96; rw [crashTo_length, hl])
theorem ringD_zero (k : Nat) : RingD (List.replicate k zero160) := fun j j' x y _ _ hx _ h1 _ => by
  rw [List.getElem?_replicate] at hx
  split at hx
  · injection hx with hx
    rw [← hx, nb_zero] at h1
    omega
  · cases hx
theorem NumI.lose {n : Nd} (hl : n.q.now.length = 96) : NumI n.lose :=
  NumI.open (ringD_zero _) rfl rfl (by show (List.replicate _ _).length = 96; rw [List.length_replicate, hl])
theorem NumI.first : NumI ⟨q0, openRg q0, 1⟩ := NumI.open (ringD_zero 96) rfl rfl (by show (List.replicate _ _).length = 96; rw [List.length_replicate])
theorem NumI.wr {n : Nd} (h : NumI n) (k : Nat) (l : List UInt8) (hk : k < 80) : NumI ⟨n.q.wr k l, n.g, n.boot⟩ :=
  ⟨h.dd, h.dn, fun x hx h80 => by
    rcases List.mem_append.1 hx with hx | hx
    · exact h.pn x hx h80
    · rw [List.mem_singleton.1 hx] at h80; simp only at h80; omega,
   List.pairwise_append.2 ⟨h.pp, List.pairwise_singleton _ _, fun x _ y hy _ h80 => by rw [List.mem_singleton.1 hy] at h80; simp only at h80; omega⟩, h.sd, h.sn⟩
theorem NumI.log {n : Nd} (h : NumI n) (c : Nat) (i : It) (hp : rightI i) (h0 : 1 ≤ n.g.next) (h1 : n.g.next ≤ 281474976710655) : NumI ⟨n.q.wr (80 + c) (layI n.g.next i), ⟨n.g.slots.set c ⟨true, n.g.next, i⟩, n.g.next + 1⟩, n.boot⟩ := by
  have hb := nb_lay n.g.next i hp h0 (by omega)
  refine ⟨h.dd, fun j x hj hx => by have := h.dn j x hj hx; show nb x < n.g.next + 1; omega, fun x hx h80 => ?_, ?_, ?_, ?_⟩
  · rcases List.mem_append.1 hx with hx | hx
    · obtain ⟨a, b⟩ := h.pn x hx h80
      exact ⟨by show nb x.2 < n.g.next + 1; omega, b⟩
    · rw [List.mem_singleton.1 hx]
      simp only [hb]
      exact ⟨by omega, fun j y hj hy => h.dn j y hj hy⟩
  · refine List.pairwise_append.2 ⟨h.pp, List.pairwise_singleton _ _, fun x hx y hy h80 _ => ?_⟩
    rw [List.mem_singleton.1 hy]
    simp only [hb]
    exact (h.pn x hx h80).1
  · intro x hx y hy lx ly he
    rcases List.mem_or_eq_of_mem_set hx with hx | rfl <;> rcases List.mem_or_eq_of_mem_set hy with hy | rfl
    · exact h.sd x hx y hy lx ly he
    · have := h.sn x hx lx; simp only at he; omega
    · have := h.sn y hy ly; simp only at he; omega
    · rfl
  · intro s hs ls
    show s.num < n.g.next + 1
    rcases List.mem_or_eq_of_mem_set hs with hs | rfl
    · have := h.sn s hs ls; omega
    · simp only; omega
theorem NumI.fl {n : Nd} {r : Rt} (h : NumI n) (ha : Alike n.q r) : NumI ⟨n.q.fl, n.g, n.boot⟩ := by
  have hj := h.j.app (fun x hx h80 => (h.pn x hx h80).1) h.pp n.q.pend.length
  rw [← ha.nowOf] at hj
  exact ⟨hj.dd, hj.dn, (fun x hx => by cases hx), List.Pairwise.nil, h.sd, h.sn⟩
theorem NumI.rel {n : Nd} (h : NumI n) (s g : Int) : NumI ⟨n.q, ⟨relS n.g.slots s g, n.g.next⟩, n.boot⟩ := by
  have hm : ∀ x ∈ relS n.g.slots s g, x.live = true → x ∈ n.g.slots := fun x hx lx => by
    obtain ⟨y, hy, rfl⟩ := List.mem_map.1 hx
    split at lx
    · cases lx
    · rename_i hc
      rw [if_neg hc]
      exact hy
  exact ⟨h.dd, h.dn, h.pn, h.pp, fun x hx y hy lx ly he => h.sd x (hm x hx lx) y (hm y hy ly) lx ly he, fun x hx lx => h.sn x (hm x hx lx) lx⟩
theorem NumI.do_ {q : Rq} {n n' : Nd} {p : Rp} {r : Rt} (h : NumI n) (ha : Alike n.q r) (h0 : 1 ≤ n.g.next) (hd : DoR q n n' p) : NumI n' := by
  rcases hd with ⟨_, rfl, _⟩ | ⟨_, ⟨a, rfl, _⟩ | ⟨_, rfl, _⟩⟩ | ⟨_, code, hl, _⟩ | ⟨_, rfl, _⟩ | ⟨_, rfl, _⟩ | ⟨_, rfl, _⟩ | ⟨_, rfl, _⟩
  · exact h
  · refine h.wr _ _ ?_
    have := placeI_bounds q.stripe q.gen a.1 a.2.1
    unfold placeN
    omega
  · exact h
  · rcases hl with ⟨_, _, rfl⟩ | ⟨_, _, _, rfl⟩ | ⟨_, _, _, _, rfl⟩ | ⟨a, _, b, _, c, _, _, rfl⟩
    · exact h
    · exact h
    · exact h
    · exact h.log c q.it a h0 b
  · exact h.fl ha
  · exact h
  · exact h.rel _ _
  · exact h
end Go.Proofs.YtekbbpfnkbanjaaGreat.Ch
