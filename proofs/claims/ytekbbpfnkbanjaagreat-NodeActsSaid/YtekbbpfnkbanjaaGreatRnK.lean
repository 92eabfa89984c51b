
/-
  The document's node: Do at any request; what Do does is one thing where the live numbers are apart.
-/
import Derived.Test.YtekbbpfnkbanjaaGreatRnJ
namespace Go.Proofs.YtekbbpfnkbanjaaGreat.Ch
open Go Go.RowKit Go.Sl Go.BigFrame
set_option linter.unusedVariables false
set_option linter.unusedSimpArgs false

/-- The live slots' numbers are apart. -/
def NumD (ss : List Sl5) : Prop := ∀ x ∈ ss, ∀ y ∈ ss, x.live = true → y.live = true → x.num = y.num → x = y
theorem liveR_fun {ss : List Sl5} {a c : List It} (hd : NumD ss) (h1 : LiveR ss a) (h2 : LiveR ss c) : a = c := by
  obtain ⟨z1, p1, w1, rfl⟩ := h1
  obtain ⟨z2, p2, w2, rfl⟩ := h2
  have hm : ∀ x ∈ liveS ss, x ∈ ss ∧ x.live = true := fun x hx => by unfold liveS at hx; exact List.mem_filter.1 hx
  have e : z1 = z2 := List.Perm.eq_of_pairwise (le := fun x y => x.num ≤ y.num) (fun x y hx hy h1 h2 => by
    obtain ⟨a1, a2⟩ := hm x (p1.mem_iff.1 hx)
    obtain ⟨b1, b2⟩ := hm y (p2.mem_iff.1 hy)
    exact hd x a1 y b1 a2 b2 (Int.le_antisymm h1 h2)) w1 w2 (p1.trans p2.symm)
  rw [e]
theorem logR_fun {i : It} {n n1 n2 : Nd} {c1 c2 : Int} (h1 : LogR i n n1 c1) (h2 : LogR i n n2 c2) : n1 = n2 ∧ c1 = c2 := by
  rcases h1 with ⟨a1, rfl, rfl⟩ | ⟨a1, a2, rfl, rfl⟩ | ⟨a1, a2, a3, rfl, rfl⟩ | ⟨a1, a2, a3, rfl, k, a4, a5, rfl⟩ <;>
  rcases h2 with ⟨b1, rfl, rfl⟩ | ⟨b1, b2, rfl, rfl⟩ | ⟨b1, b2, b3, rfl, rfl⟩ | ⟨b1, b2, b3, rfl, k', b4, b5, rfl⟩
  all_goals first
    | exact ⟨rfl, rfl⟩
    | exact absurd a1 b1
    | exact absurd b1 a1
    | exact absurd a2 b2
    | exact absurd b2 a2
    | (exfalso; rcases a3 with h | h <;> omega)
    | (exfalso; rcases b3 with h | h <;> omega)
    | (have e : k = k' := by omega
       subst e
       exact ⟨rfl, rfl⟩)
theorem doR_fun {q : Rq} {n n1 n2 : Nd} {p1 p2 : Rp} (hd : NumD n.g.slots) (h1 : DoR q n n1 p1) (h2 : DoR q n n2 p2) : n1 = n2 ∧ p1 = p2 := by
  rcases h1 with ⟨a1, rfl, a2⟩ | ⟨a1, a2⟩ | ⟨a1, c1, a2, rfl⟩ | ⟨a1, rfl, rfl⟩ | ⟨a1, rfl, l1, a2, rfl⟩ | ⟨a1, rfl, rfl⟩ | ⟨a1, rfl, rfl⟩ <;>
  rcases h2 with ⟨b1, rfl, b2⟩ | ⟨b1, b2⟩ | ⟨b1, c2, b2, rfl⟩ | ⟨b1, rfl, rfl⟩ | ⟨b1, rfl, l2, b2, rfl⟩ | ⟨b1, rfl, rfl⟩ | ⟨b1, rfl, rfl⟩
  all_goals first
    | (exfalso; omega)
    | exact ⟨rfl, rfl⟩
    | (rcases a2 with ⟨x1, x2, rfl⟩ | ⟨x1, rfl⟩ <;> rcases b2 with ⟨y1, y2, rfl⟩ | ⟨y1, rfl⟩ <;> first | exact ⟨rfl, rfl⟩ | (exfalso; omega))
    | (rcases a2 with ⟨x1, rfl, rfl⟩ | ⟨x1, rfl, rfl⟩ <;> rcases b2 with ⟨y1, rfl, rfl⟩ | ⟨y1, rfl, rfl⟩ <;> first | exact ⟨rfl, rfl⟩ | exact absurd ‹rightP q.pc› ‹¬ rightP q.pc›)
    | (obtain ⟨rfl, rfl⟩ := logR_fun a2 b2; exact ⟨rfl, rfl⟩)
    | (obtain rfl := liveR_fun hd a2 b2; exact ⟨rfl, rfl⟩)

set_option maxHeartbeats 1000000 in
theorem refdo_any (b m : Nat) (n : Nd) (r : Rt) (A : List Atom) (q : Rq) (da : Option Addr) (dc : Nat) (W w : World) (L : List Atom) (hn : DnA b r n.g n.boot A) (ha : Alike n.q r) (hs : Sat W w (A ++ L)) (hin : ∀ y, Sat W y L → Reads y (.slice da q.data.length dc) q.data.length (bts q.data)) (hf : NdFit n m) (hm : m < 900000) :
    Calls Tryz.prog 15 #[.pointer (some ⟨b, 0, none⟩), rqV q (.slice da q.data.length dc)] w fun e w' => ∃ n' p r' pv iv A' R, e = .returned (repV p.code n.boot pv iv) ∧ DoR q n n' p ∧ RefA A' pv iv p R ∧ DnA b r' n'.g n'.boot A' ∧ Alike n'.q r' ∧ Sat W w' (A' ++ (R ++ L)) := by
  obtain ⟨k, s, g, i, d⟩ := q
  unfold rqV
  simp only at hin ⊢
  obtain ⟨bp, br, Ap, Ag, hq, ⟨xs, B, hxs, hri, rfl⟩, rfl⟩ := hn
  have hxl : xs.length = 16 := by have := hf.slen; rw [← hxs, List.length_map] at this; exact this
  have hok : ∀ x ∈ xs, SlOk x.1 := fun x hx => hf.sok _ (by rw [← hxs]; exact List.mem_map.2 ⟨x, hx, rfl⟩)
  have hdl : r.done.length = 96 := by rw [ha.done]; exact hf.ok.dlen
  have hpl : r.pend.length < 900000 := by rw [ha.pend]; have := hf.ok.pend; omega
  have hw0 : 0 ≤ r.writes := by rw [ha.writes]; exact hf.ok.w0
  have hw1 : r.writes < 1000000000 := by rw [ha.writes]; have := hf.ok.w1; omega
  have hst : ∀ r' Ap', RtA bp r' Ap' → DnA b r' n.g n.boot (dnAt b bp br n.boot :: (Ap' ++ (cellsA br (rringC bp xs n.g.next) 96 :: B))) := fun r' Ap' h => ⟨bp, br, Ap', _, h, ⟨xs, B, hxs, hri, rfl⟩, rfl⟩
  by_cases h1 : k = 1
  · subst h1
    by_cases hk : 0 ≤ s ∧ s < 40
    · refine (rdo_get b bp br r Ap _ n.boot s g i da d.length dc W w L n.q hq ha hk.1 hk.2 (by rw [hf.ok.len]; decide) hf.ok.small hpl hs).mono ?_
      rintro e w' ⟨pa, pc, xs', R, B', rfl, hr, hx, hb, hs'⟩
      exact ⟨n, ⟨0, getL n.q s, []⟩, r, _, _, _, (R ++ B') ++ [], rfl, .inl ⟨rfl, rfl, .inl ⟨hk.1, hk.2, rfl⟩⟩, ⟨pa, pc, xs', R, B', none, 0, [], [], rfl, hr, hx, hb, rfl, RowA.nil _ _, rfl, (fun x hx => by cases hx), rfl⟩, hst r Ap hq, ha, hs'.use (by intro x; simp only [cnt_append, cnt_cons, cnt_nil]; omega)⟩
    · refine (rdo_get_out b bp br r Ap _ n.boot s g i da d.length dc W w L (by omega) hs).mono ?_
      rintro e w' ⟨rfl, hs'⟩
      exact ⟨n, ⟨1, [], []⟩, r, _, _, _, [], rfl, .inl ⟨rfl, rfl, .inr ⟨by show s < 0 ∨ 40 ≤ s; omega, rfl⟩⟩, RefA.nil0 _ _, hst r Ap hq, ha, hs'⟩
  by_cases h2 : k = 2
  · subst h2
    by_cases hp : rightP ⟨s, g, i, d⟩
    · refine (rdo_put b bp br r Ap _ n.boot s g i d da d.length dc W w L rfl hin hq hp (by omega) hpl hw0 hw1 hs).mono ?_
      rintro e w' ⟨Ap', rfl, hA', hs'⟩
      exact ⟨_, ⟨0, [], []⟩, _, _, _, _, [], rfl, .inr (.inl ⟨rfl, .inl ⟨hp, rfl, rfl⟩⟩), RefA.nil0 _ _, hst _ Ap' hA', ha.wr _ _, hs'⟩
    · refine (rdo_put_bad b bp br r Ap _ n.boot s g i d da d.length dc W w L rfl hp hs).mono ?_
      rintro e w' ⟨rfl, hs'⟩
      exact ⟨n, ⟨1, [], []⟩, r, _, _, _, [], rfl, .inr (.inl ⟨rfl, .inr ⟨hp, rfl, rfl⟩⟩), RefA.nil0 _ _, hst r Ap hq, ha, hs'⟩
  by_cases h3 : k = 3
  · subst h3
    refine (rdo_log b bp br r Ap xs n.g.next B n.boot s g i d da d.length dc W w L rfl hin hq hri hxl hok hf.n0 hf.n1 hdl hpl hw0 hw1 hs).mono ?_
    rintro e w' ⟨code, xs', nx', r', B', Ap', rfl, hri', hA', hx, hs'⟩
    rcases hx with ⟨c1, rfl, rfl, rfl, rfl⟩ | ⟨c1, c2, rfl, rfl, rfl, rfl⟩ | ⟨c1, c2, c3, rfl, rfl, rfl, rfl⟩ | ⟨c1, c2, c3, rfl, c, v, c4, c5, rfl, rfl, rfl⟩
    · exact ⟨n, ⟨1, [], []⟩, _, _, _, _, [], rfl, .inr (.inr (.inl ⟨rfl, 1, .inl ⟨c1, rfl, rfl⟩, rfl⟩)), RefA.nil0 _ _, ⟨bp, br, Ap', _, hA', ⟨_, B', hxs, hri', rfl⟩, rfl⟩, ha, hs'⟩
    · rw [hxs] at c2
      exact ⟨n, ⟨0, [], []⟩, _, _, _, _, [], rfl, .inr (.inr (.inl ⟨rfl, 0, .inr (.inl ⟨c1, c2, rfl, rfl⟩), rfl⟩)), RefA.nil0 _ _, ⟨bp, br, Ap', _, hA', ⟨_, B', hxs, hri', rfl⟩, rfl⟩, ha, hs'⟩
    · rw [hxs] at c2 c3
      exact ⟨n, ⟨6, [], []⟩, _, _, _, _, [], rfl, .inr (.inr (.inl ⟨rfl, 6, .inr (.inr (.inl ⟨c1, c2, c3, rfl, rfl⟩)), rfl⟩)), RefA.nil0 _ _, ⟨bp, br, Ap', _, hA', ⟨_, B', hxs, hri', rfl⟩, rfl⟩, ha, hs'⟩
    · rw [hxs] at c2 c5
      refine ⟨⟨n.q.wr (80 + c) (layI n.g.next ⟨s, g, d⟩), ⟨n.g.slots.set c ⟨true, n.g.next, ⟨s, g, d⟩⟩, n.g.next + 1⟩, n.boot⟩, ⟨0, [], []⟩, _, _, _, _, [], rfl, .inr (.inr (.inl ⟨rfl, 0, .inr (.inr (.inr ⟨c1, c2, c3, rfl, c, c4, c5, rfl⟩)), rfl⟩)), RefA.nil0 _ _, ⟨bp, br, Ap', _, hA', ⟨_, B', ?_, hri', rfl⟩, rfl⟩, ha.wr _ _, hs'⟩
      rw [List.map_set, hxs]
  by_cases h4 : k = 4
  · subst h4
    refine (rdo_flush b bp br r Ap _ n.boot s g i da d.length dc W w L hq (by omega) hpl (by rw [ha.pend, ha.done, hf.ok.dlen]; exact fun x hx => (hf.ok.pok x hx).1) hs).mono ?_
    rintro e w' ⟨Ap', rfl, hA', hs'⟩
    exact ⟨_, ⟨0, [], []⟩, _, _, _, _, [], rfl, .inr (.inr (.inr (.inl ⟨rfl, rfl, rfl⟩))), RefA.nil0 _ _, hst _ Ap' hA', ha.fl, hs'⟩
  by_cases h5 : k = 5
  · subst h5
    refine (rdo_live b bp br Ap xs n.g.next B n.boot s g i da d.length dc W w L hri hxl hok hs).mono ?_
    rintro e w' ⟨ia, ic, ys, zs, R, rfl, hr, hp, hpw, hy, hi, hs'⟩
    refine ⟨n, ⟨0, [], ys.map Prod.fst⟩, r, _, _, _, ([] ++ []) ++ R, rfl, .inr (.inr (.inr (.inr (.inl ⟨rfl, rfl, _, ⟨zs.map Prod.fst, ?_, ?_, ?_⟩, rfl⟩)))), ⟨none, 0, [], [], [], ia, ic, ys, R, rfl, RowA.nil _ _, rfl, (fun x hx => by cases hx), rfl, hr, rfl, fun y h => (hi y h).mono (fun x hx => by simp [hx]), rfl⟩, hst r Ap hq, ha, hs'.use (by intro x; simp only [cnt_append, cnt_cons, cnt_nil]; omega)⟩
    · rw [← hxs, ← liveOf_map]; exact hp.map _
    · exact List.pairwise_map.2 hpw
    · rw [hy, List.map_map]; rfl
  by_cases h6 : k = 6
  · subst h6
    refine (rdo_rel b bp br Ap xs n.g.next B n.boot s g i da d.length dc W w L hxl hok hs).mono ?_
    rintro e w' ⟨rfl, hs'⟩
    exact ⟨⟨n.q, ⟨relS n.g.slots s g, n.g.next⟩, n.boot⟩, ⟨0, [], []⟩, r, _, _, _, [], rfl, .inr (.inr (.inr (.inr (.inr (.inl ⟨rfl, rfl, rfl⟩))))), RefA.nil0 _ _, ⟨bp, br, Ap, _, hq, ⟨relX xs s g 16, B, by rw [relX_all xs s g hxl, hxs], relX_rows hri s g 16, rfl⟩, rfl⟩, ha, hs'⟩
  · refine (rdo_none b bp br Ap _ n.boot k s g i da d.length dc W w L (by omega) hs).mono ?_
    rintro e w' ⟨rfl, hs'⟩
    exact ⟨n, ⟨1, [], []⟩, r, _, _, _, [], rfl, .inr (.inr (.inr (.inr (.inr (.inr ⟨by show k < 1 ∨ 6 < k; omega, rfl, rfl⟩))))), RefA.nil0 _ _, hst r Ap hq, ha, hs'⟩
end Go.Proofs.YtekbbpfnkbanjaaGreat.Ch
