
/-
  WireKnown: what its calls answer, one after another: the plain law.
-/
import Derived.Test.YtekbbpfnkbanjaaGreatDoorWtC
namespace Go.Proofs.YtekbbpfnkbanjaaGreatDoor.Ch
set_option linter.unusedSimpArgs false
open Go Go.RowKit Go.Sl Go.BigFrame
set_option linter.unusedVariables false

def qP : Rq := ⟨2, 0, 0, 0, []⟩
def rep8 : List Bool := List.replicate 8 false
theorem set_same {α : Type} {l : List α} {k : Nat} {a : α} (h : l[k]? = some a) : l.set k a = l := by
  obtain ⟨hl, rfl⟩ := List.getElem?_eq_some_iff.1 h
  rw [List.set_getElem_self]
theorem doR_put {n n' : Nd} {p : Rp} (h : DoR qP n n' p) : n' = n ∧ p = ⟨1, [], []⟩ := by
  rcases h with ⟨h, _⟩ | ⟨_, ⟨hp, _⟩ | ⟨_, h1, h2⟩⟩ | ⟨h, _⟩ | ⟨h, _⟩ | ⟨h, _⟩ | ⟨h, _⟩ | ⟨h, _⟩
  · exact absurd h (show ¬ (2 : Int) = 1 by decide)
  · exact absurd hp.2.2.1 (show ¬ (1 : Int) ≤ 0 by decide)
  · exact ⟨h1, h2⟩
  · exact absurd h (show ¬ (2 : Int) = 3 by decide)
  · exact absurd h (show ¬ (2 : Int) = 4 by decide)
  · exact absurd h (show ¬ (2 : Int) = 5 by decide)
  · exact absurd h (show ¬ (2 : Int) = 6 by decide)
  · exact absurd h (show ¬ ((2 : Int) < 1 ∨ (6 : Int) < 2) by decide)
/-- A try that is heard. -/
theorem try_heard {k t b : Nat} {q : Rq} {n : Nd} {x x' : Wr} {r : WR} (hd : x.dead = false) (hk : x.down[k]? = some false) (hf : x.fuse = -1) (h0 : x.fate ≠ 1 ∧ x.fate ≠ 2 ∧ x.fate ≠ 3) (hn : x.ns[k]? = some (b, n)) (h : TryR k q (t + 1) x x' r) :
    ∃ n' p, DoR q n n' p ∧ x' = x.tick.put k b n' ∧ ((p.code = 0 ∧ r = .ok n.boot p) ∨ (p.code ≠ 0 ∧ r = .err p.code)) := by
  obtain ⟨y, ⟨hs, ht⟩ | ⟨boot, p, hs, rfl, hr⟩⟩ := try_step hd hk hf h
  · rcases hs with ⟨h3, _⟩ | ⟨h3, _⟩
    · exact absurd h3 h0.1
    · exact absurd h3 h0.2.1
  · obtain ⟨_, _, b', n0, n1, n', hn', hn1, hb, hdo, rfl⟩ := hs
    rw [hn] at hn'
    obtain ⟨rfl, rfl⟩ : b = b' ∧ n = n0 := by cases hn'; exact ⟨rfl, rfl⟩
    rw [if_neg h0.2.2] at hn1
    subst hn1
    simp only at hb hdo
    subst hb
    exact ⟨n', p, hdo, rfl, hr⟩
/-- A try whose reply is lost. -/
theorem try_norep {k t b : Nat} {q : Rq} {n : Nd} {x x' : Wr} {r : WR} (hd : x.dead = false) (hk : x.down[k]? = some false) (hf : x.fuse = -1) (h0 : x.fate = 2) (hn : x.ns[k]? = some (b, n)) (h : TryR k q (t + 1) x x' r) :
    ∃ n' p, DoR q n n' p ∧ TryR k q t (x.tick.put k b n') x' r := by
  obtain ⟨y, ⟨hs, ht⟩ | ⟨boot, p, hs, rfl, hr⟩⟩ := try_step hd hk hf h
  · rcases hs with ⟨h3, _⟩ | ⟨_, b', n0, n', p, hn', hdo, rfl⟩
    · rw [h0] at h3; exact absurd h3 (by decide)
    · rw [hn] at hn'
      obtain ⟨rfl, rfl⟩ : b = b' ∧ n = n0 := by cases hn'; exact ⟨rfl, rfl⟩
      exact ⟨n', p, hdo, ht⟩
  · exact absurd h0 hs.2.1
theorem kn_put {ps : List (Nat × Nd)} {b0 : Nat} {x' : Wr} {r : WR} (h0 : ps[0]? = some (b0, nd0)) (h : TryR 0 qP 3 (wr0 ps) x' r) : x' = ⟨ps, rep8, [], -1, false, 1⟩ ∧ r = .err 1 := by
  have hf : (wr0 ps).fate = 0 := rfl
  obtain ⟨n', p, hd, rfl, hr⟩ := try_heard rfl rfl rfl (by rw [hf]; decide) h0 h
  obtain ⟨rfl, rfl⟩ := doR_put hd
  refine ⟨?_, ?_⟩
  · show (⟨ps.set 0 (b0, nd0), _, _, _, _, _⟩ : Wr) = _
    rw [set_same h0]
    rfl
  · rcases hr with ⟨h, _⟩ | ⟨_, h⟩
    · exact absurd h (show ¬ (1 : Int) = 0 by decide)
    · exact h
theorem LogR.boot {X : It} {n n' : Nd} {code : Int} (h : LogR X n n' code) : n'.boot = n.boot := by
  rcases h with ⟨_, _, rfl⟩ | ⟨_, _, _, rfl⟩ | ⟨_, _, _, _, rfl⟩ | ⟨_, _, _, _, k, _, _, rfl⟩ <;> rfl
theorem LogR.again {X : It} {n n' : Nd} {code : Int} (h : LogR X n n' code) (hp : rightI X) (hx : hasI n.g.slots X) : n' = n ∧ code = 0 := by
  rcases h with ⟨h, _⟩ | ⟨_, _, h1, h2⟩ | ⟨_, h, _⟩ | ⟨_, h, _⟩
  · exact absurd hp h
  · exact ⟨h2, h1⟩
  · exact absurd hx h
  · exact absurd hx h
theorem live_tn {n : Nd} {ls : List Sl5} (h : TNode n ls) : (liveS n.g.slots).length = ls.length := by
  rw [h.g]
  have e1 : liveS (ls ++ List.replicate (16 - ls.length) sl0) = liveS ls ++ liveS (List.replicate (16 - ls.length) sl0) := by unfold liveS; rw [List.filter_append]
  show (liveS (ls ++ List.replicate (16 - ls.length) sl0)).length = _
  rw [e1, live_rep, List.append_nil]
  unfold liveS
  rw [List.filter_eq_self.2 h.live]
theorem kn_log {ps : List (Nat × Nd)} {b1 : Nat} {D : List UInt8} {x' : Wr} {r : WR} (hD : D.length = 128) (h1 : ps[1]? = some (b1, nd0)) (h : TryR 1 (logq (iK D)) 3 ⟨ps, rep8, [] ++ [2, 2, 0, 3, 77], -1, false, 1⟩ x' r) :
    ∃ n1 ls, x' = ⟨ps.set 1 (b1, n1), rep8, [3, 77], -1, false, 4⟩ ∧ r = .ok 1 ⟨0, [], []⟩ ∧ n1.boot = 1 ∧ TNode n1 ls ∧ ls.length = 1 := by
  have hp : rightI (iK D) := ⟨by show (0 : Int) ≤ 0; omega, by show (0 : Int) < 40; omega, by show (1 : Int) ≤ 1; omega, by show (1 : Int) ≤ 1099511627776; omega, hD⟩
  have hl : 1 < ps.length := (List.getElem?_eq_some_iff.1 h1).1
  obtain ⟨n1, p1, hd1, h⟩ := try_norep (k := 1) rfl rfl rfl rfl h1 h
  obtain ⟨c1, hl1, rfl⟩ := doR_log hd1
  obtain ⟨rfl, hx1, ls, ht, hls⟩ := log_tn hl1 hp tn_start (by decide)
  have hb1 := hl1.boot
  have g1 : (ps.set 1 (b1, n1))[1]? = some (b1, n1) := by rw [List.getElem?_set]; simp [hl]
  obtain ⟨n2, p2, hd2, h⟩ := try_norep (k := 1) (b := b1) (n := n1) rfl rfl rfl rfl g1 h
  obtain ⟨c2, hl2, rfl⟩ := doR_log hd2
  obtain ⟨rfl, rfl⟩ := hl2.again hp hx1
  have e2 : (ps.set 1 (b1, n2)).set 1 (b1, n2) = ps.set 1 (b1, n2) := set_same g1
  have h : TryR 1 (logq (iK D)) 1 ⟨(ps.set 1 (b1, n2)).set 1 (b1, n2), rep8, [0, 3, 77], -1, false, 3⟩ x' r := h
  rw [e2] at h
  have hf : (⟨ps.set 1 (b1, n2), rep8, [0, 3, 77], -1, false, 3⟩ : Wr).fate = 0 := rfl
  obtain ⟨n3, p3, hd3, rfl, hr⟩ := try_heard (k := 1) (b := b1) (n := n2) rfl rfl rfl (by rw [hf]; decide) g1 h
  obtain ⟨c3, hl3, rfl⟩ := doR_log hd3
  obtain ⟨rfl, rfl⟩ := hl3.again hp hx1
  refine ⟨n3, ls, ?_, ?_, hb1, ht, ?_⟩
  · show (⟨(ps.set 1 (b1, n3)).set 1 (b1, n3), _, _, _, _, _⟩ : Wr) = _
    rw [e2]
    rfl
  · rcases hr with ⟨_, h⟩ | ⟨h, _⟩
    · rw [h, hb1]; rfl
    · exact absurd rfl h
  · rcases hls with ⟨hh, _⟩ | h
    · obtain ⟨s, hs, hlv, _⟩ := hh
      rw [nd0_slots] at hs
      rw [(List.mem_replicate.1 hs).2] at hlv
      cases hlv
    · exact h
theorem kn_pow {ns : List (Nat × Nd)} {b1 : Nat} {n1 : Nd} {fs : List Int} {sent : Int} {x' : Wr} {r : WR} (h1 : ns[1]? = some (b1, n1)) (h : TryR 1 qF 3 ⟨ns, rep8, 3 :: fs, -1, false, sent⟩ x' r) : x' = ⟨ns.set 1 (b1, (n1.crash []).flu), rep8, fs, -1, false, sent + 1⟩ ∧ r = .ok (n1.boot + 1) ⟨0, [], []⟩ :=
  try_flush3 (k := 1) rfl rfl rfl rfl h1 h
theorem kn_77 {ns : List (Nat × Nd)} {b1 : Nat} {n1 : Nd} {sent : Int} {x' : Wr} {r : WR} (h1 : ns[1]? = some (b1, n1)) (h : TryR 1 qF 3 ⟨ns, rep8, [77], -1, false, sent⟩ x' r) : x' = ⟨ns.set 1 (b1, n1.flu), rep8, [], -1, false, sent + 1⟩ ∧ r = .ok n1.boot ⟨0, [], []⟩ := by
  have hf : (⟨ns, rep8, [77], -1, false, sent⟩ : Wr).fate = 77 := rfl
  exact try_flush0 (k := 1) rfl rfl rfl (by rw [hf]; decide) h1 h
theorem kn_fuse {ns : List (Nat × Nd)} {b1 : Nat} {n1 : Nd} {D : List Bool} {sent : Int} {x' : Wr} {r : WR} (h1 : ns[1]? = some (b1, n1)) (hD : D[1]? = some false) (h : TryR 1 qF 3 ⟨ns, D, [], 1, false, sent⟩ x' r) : x' = ⟨ns.set 1 (b1, n1.flu), D, [], 0, false, sent + 1⟩ ∧ r = .ok n1.boot ⟨0, [], []⟩ := by
  have hb : (⟨ns, D, [], 1, false, sent⟩ : Wr).burnt = ⟨ns, D, [], 0, false, sent⟩ := rfl
  have hf : (⟨ns, D, [], 0, false, sent⟩ : Wr).fate = 0 := rfl
  rcases h with ⟨h | h, _⟩ | ⟨_, _, h, _⟩ | ⟨_, _, _, y, ⟨hs, _⟩ | ⟨boot, p, hs, rfl, hr⟩⟩
  · cases h
  · rw [hD] at h; cases h
  · exact absurd h (show ¬ (1 : Int) = 0 by decide)
  · rw [hb] at hs
    rcases hs with ⟨h, _⟩ | ⟨h, _⟩
    · rw [hf] at h; exact absurd h (by decide)
    · rw [hf] at h; exact absurd h (by decide)
  · rw [hb] at hs
    obtain ⟨_, _, b', n0, n2, n', hn', hn1, hbt, hdo, rfl⟩ := hs
    have hn' : ns[1]? = some (b', n0) := hn'
    rw [h1] at hn'
    obtain ⟨rfl, rfl⟩ : b1 = b' ∧ n1 = n0 := by cases hn'; exact ⟨rfl, rfl⟩
    rw [if_neg (by rw [hf]; decide)] at hn1
    subst hn1
    obtain ⟨rfl, hp⟩ := doR_flush hdo
    simp only at hp hbt
    subst hp
    rcases hr with ⟨_, rfl⟩ | ⟨h0, _⟩
    · rw [hbt]
      exact ⟨rfl, rfl⟩
    · exact absurd rfl h0
theorem kn_burn {ns : List (Nat × Nd)} {D : List Bool} {k : Nat} {sent : Int} {x' : Wr} {r : WR} (hD : D[k]? = some false) (h : TryR k qF 3 ⟨ns, D, [], 0, false, sent⟩ x' r) : x' = ⟨ns, D, [], -1, true, sent⟩ ∧ r = .err 4 := by
  rcases h with ⟨h | h, _⟩ | ⟨_, _, _, h⟩ | ⟨_, _, h, _⟩
  · cases h
  · rw [hD] at h; cases h
  · exact h
  · exact absurd rfl h
theorem kn_dead {x x' : Wr} {k : Nat} {q : Rq} {r : WR} (hd : x.dead = true) (h : TryR k q 3 x x' r) : x' = x ∧ r = .err 4 := by
  rcases h with ⟨_, h⟩ | ⟨h, _⟩ | ⟨h, _⟩
  · exact h
  · rw [hd] at h; cases h
  · rw [hd] at h; cases h
theorem kn_last {ns : List (Nat × Nd)} {b1 k : Nat} {n1 : Nd} {D : List Bool} {sent : Int} {x' : Wr} {r : WR} (h1 : ns[k]? = some (b1, n1)) (hD : D[k]? = some false) (h : TryR k qF 3 ⟨ns, D, [], -1, false, sent⟩ x' r) : x' = ⟨ns.set k (b1, n1.flu), D, [], -1, false, sent + 1⟩ ∧ r = .ok n1.boot ⟨0, [], []⟩ := by
  have hf : (⟨ns, D, [], -1, false, sent⟩ : Wr).fate = 0 := rfl
  exact try_flush0 rfl hD rfl (by rw [hf]; decide) h1 h
theorem reqOk_put : reqOk qP := ⟨by decide, by decide, by decide, by decide, by decide, by decide, by decide, by decide, by decide⟩
theorem reqOk_log (D : List UInt8) (hD : D.length = 128) : reqOk (logq (iK D)) := ⟨by show (1 : Int) ≤ 3; decide, by show (3 : Int) ≤ 6; decide, by show (0 : Int) ≤ 0; decide, by show (0 : Int) ≤ 65535; decide, by show (0 : Int) ≤ 1; decide, by show (1 : Int) ≤ 1099511627776; decide, by show (0 : Int) ≤ 0; decide, by show (0 : Int) ≤ 255; decide, by show D.length ≤ 128; omega⟩
theorem wcall_at (m b k : Nat) (n : Int) (x : Wr) (A : List Atom) (q : Rq) (da : Option Addr) (dc : Nat) (W w : World) (L : List Atom) (hn : n = k) (hx : WrA b x A) (hs : Sat W w (A ++ L)) (hk8 : k < 8) (hq : reqOk q) (hin : ∀ y, Sat W y L → Reads y (.slice da q.data.length dc) q.data.length (bts q.data)) (hf : WrFit x m) (hm : m < 700000) :
    Calls Tryz.prog 13 #[.pointer (some ⟨b, 0, none⟩), .int .i64 n, rqV q (.slice da q.data.length dc)] w fun e w' => ∃ x' r v ev A' R, e = .returned (.tuple #[v, ev]) ∧ TryR k q 3 x x' r ∧ ResA n v ev R r ∧ WrA b x' A' ∧ Sat W w' (A' ++ (R ++ L)) := by
  subst hn
  exact wcall_any m b k x A q da dc W w L hx hs hk8 hq hin hf hm
theorem in_mem {be : Nat} {n c : Int} {L : List Atom} (h : onA be n c ∈ L) : Ca.In L (.on be n (.code c)) := by
  unfold Ca.In
  exact ⟨h, by unfold Ca.In; trivial⟩
theorem code_mem {be : Nat} {n c : Int} {W w : World} {L : List Atom} (h : onA be n c ∈ L) (hG : Ca.ErrT w) (hs : Sat W w L) :
    Calls Tryz.prog 18 #[Ca.val (.on be n (.code c))] w fun r w' => r = .returned (.int .i64 c) ∧ Sat W w' L := by
  refine (Ca.code_any (.on be n (.code c)) W w L [] (in_mem h) hG (by rw [List.append_nil]; exact hs)).mono ?_
  rintro r w' ⟨rfl, hs'⟩
  rw [List.append_nil] at hs'
  exact ⟨rfl, hs'⟩
theorem nodes_mem {be : Nat} {n c : Int} {W w : World} {L : List Atom} (h : onA be n c ∈ L) (hs : Sat W w L) :
    Calls Tryz.prog 23 #[Ca.val (.on be n (.code c))] w fun r w' => ∃ v R, r = .returned v ∧ RowA 3 1 v [n].length (intsC [n]) R ∧ Sat W w' (R ++ L) := by
  refine (Ca.nodes_any 2 (.on be n (.code c)) (by simp [Ca.ET.size]) (by simp [Ca.nodesE]) W w L [] (in_mem h) (by rw [List.append_nil]; exact hs)).mono ?_
  rintro r w' ⟨v, R, rfl, hr, hs'⟩
  rw [List.append_nil] at hs'
  exact ⟨v, R, rfl, hr, hs'⟩
end Go.Proofs.YtekbbpfnkbanjaaGreatDoor.Ch
