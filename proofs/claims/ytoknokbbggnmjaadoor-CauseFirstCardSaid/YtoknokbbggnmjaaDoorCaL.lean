/-
  CauseNodes: the walk.
-/
import Derived.Test.YtoknokbbggnmjaaDoorCaK
import Derived.Deep.CutBlock
import Derived.Deep.Cut
namespace Go.Proofs.YtoknokbbggnmjaaDoor.Ca
set_option linter.unusedSimpArgs false
open Go Go.RowKit Go.Sl Go.Extern.Stop Go.Stop Go.Extern
set_option linter.unusedVariables false

/-- corbelhand.Pick. -/
def handPick (x m : Int) : Int := if x.tmod m < 0 then x.tmod m + m else x.tmod m

theorem hand_pick (x m : Int) (w : World) (hm : 0 < m) (hm2 : m < 1000000) :
    Calls Tryd.prog 9 #[.int .i64 x, .int .i64 m] w fun e w' => e = .returned (.int .i64 (handPick x m)) ∧ w = w' := by
  have b1 : x.tmod m < m := Int.tmod_lt_of_pos _ hm
  have b2 : -m < x.tmod m := by
    have := Int.tmod_lt_of_pos (-x) hm
    rw [Int.neg_tmod] at this
    omega
  unfold handPick
  by_cases h0 : x.tmod m < 0
  · have d1 : decide (x.tmod m < 0) = true := by simpa using h0
    rw [if_pos h0]
    have b3 : (0 : Int) ≤ x.tmod m + m := by omega
    have b4 : x.tmod m + m < 1000000 := by omega
    go_enter Tryd.func9, Tryd.ntmps9
    go_wp2_with fail
    go_ret
    exact ⟨rfl, rfl⟩
  · have d1 : decide (x.tmod m < 0) = false := by simpa using h0
    rw [if_neg h0]
    go_enter Tryd.func9, Tryd.ntmps9
    go_wp2_with fail
    go_ret
    exact ⟨rfl, rfl⟩

/-- All its codes are ErrLost; its stripe, if any, is s. -/
structure Lost (s : Int) (e : ET) : Prop where
  code : code1 e = some 5
  has : hasC 5 e = true
  no : hasC 4 e = false
  of : ∀ p, of1 e = some p → p.2 = s
theorem Lost.on (s : Int) (b : Nat) (n : Int) : Lost s (.on b n (.code 5)) := ⟨rfl, rfl, rfl, fun p h => by unfold of1 of1 at h; cases h⟩
theorem Lost.ofs {s : Int} {e : ET} (h : Lost s e) (b : Nat) : Lost s (.of b s e) :=
  ⟨by unfold code1; exact h.code, by unfold hasC; exact h.has, by unfold hasC; exact h.no, fun p hp => by unfold of1 at hp; cases hp; rfl⟩
theorem Lost.noL {s : Int} : ∀ {es : List ET}, (∀ e ∈ es, Lost s e) → hasL 4 es = false
  | [], _ => rfl
  | e :: es, h => by
    unfold hasL
    rw [(h e (List.mem_cons_self ..)).no, Lost.noL fun x hx => h x (List.mem_cons_of_mem _ hx)]
    rfl
theorem Lost.ofL' {s : Int} : ∀ {es : List ET}, (∀ e ∈ es, Lost s e) → ∀ p, ofL es = some p → p.2 = s
  | [], _, p, hp => by unfold ofL at hp; cases hp
  | e :: es, h, p, hp => by
    unfold ofL at hp
    cases hc : of1 e with
    | none => rw [hc] at hp; exact Lost.ofL' (fun x hx => h x (List.mem_cons_of_mem _ hx)) p hp
    | some q => rw [hc] at hp; cases hp; exact (h e (List.mem_cons_self ..)).of _ hc
theorem Lost.all {s : Int} {es : List ET} (hne : es ≠ []) (h : ∀ e ∈ es, Lost s e) (b : Nat) (v : Value) : Lost s (.all b v es) := by
  cases es with
  | nil => exact absurd rfl hne
  | cons e es =>
    have he := h e (List.mem_cons_self ..)
    refine ⟨?_, ?_, ?_, ?_⟩
    · unfold code1 codeL; rw [he.code]
    · unfold hasC hasL; rw [he.has]; rfl
    · unfold hasC; exact Lost.noL h
    · unfold of1; exact Lost.ofL' h

theorem map_some (es : List ET) : (es.map some).map oval = es.map val := by
  rw [List.map_map]; rfl
theorem filter_some (es : List ET) : (es.map some).filterMap id = es := by
  induction es with
  | nil => rfl
  | cons e es ih => simp

/-- Join of some that are lost. -/
theorem join_lost (s : Int) (W w : World) (L T : List Atom) (v : Value) (es : List ET) (hne : es ≠ []) (hs : Sat W w L) (hrow : InRow L v (es.map val)) (hin : InL T es) (hl : ∀ e ∈ es, Lost s e) :
    Calls Tryd.prog 12 #[v] w fun r w' => ∃ e' N, r = .returned (val e') ∧ In (N ++ T) e' ∧ Lost s e' ∧ nodesE e' = nodesL es ∧ Sat W w' (N ++ L) := by
  refine (join_any W w L v (es.map some) hs (by rw [map_some]; exact hrow)).mono ?_
  intro r w' h
  rw [filter_some] at h
  rcases es with _ | ⟨e1, _ | ⟨e2, es⟩⟩
  · exact absurd rfl hne
  · obtain ⟨h1, h2⟩ := h
    refine ⟨e1, [], h1, ?_, hl e1 (List.mem_cons_self ..), by simp [nodesL], h2⟩
    exact hin.mem e1 (List.mem_cons_self ..)
  · obtain ⟨b, v', R, h1, h2, h3⟩ := h
    refine ⟨_, cellsA b #[v'] 60 :: R, h1, In.all' (List.mem_append_left _ (List.mem_cons_self ..)) ⟨by simpa using hrow.1, R, by simpa using h2, fun x hx => List.mem_append_left _ (List.mem_cons_of_mem _ hx)⟩ (hin.mono fun x hx => List.mem_append_right _ hx), Lost.all hne hl b v', by rw [nodesE], h3⟩

theorem nodesL_append : ∀ (a b : List ET), nodesL (a ++ b) = nodesL a ++ nodesL b
  | [], b => rfl
  | e :: a, b => by simp only [List.cons_append, nodesL]; rw [nodesL_append a b, List.append_assoc]
theorem nodesL_one (b : Nat) (n : Int) : nodesL [.on b n (.code 5)] = [n] := rfl
theorem nodesL_of (b : Nat) (s : Int) (e : ET) : nodesL [.of b s e] = nodesE e := by simp [nodesL, nodesE]

/-- A row of ints that came in, as far as a walk reads it. -/
def IntsAt (W : World) (v : Value) (ks : List Int) : Prop :=
  ∃ g c, v = .slice g ks.length c ∧ ks.length ≤ maxLen ∧
    ∀ w, Below W.heap.size W w → ∀ j, j < ks.length → ∃ b o, g = some ⟨b, o, none⟩ ∧ w.cell? ⟨b, o + j, none⟩ = some (.int .i64 (ks.getD j 0))

set_option maxRecDepth 100000 in
set_option maxHeartbeats 4000000 in
theorem causeNodes_walk (lv pv : Value) (ls ps : List Int) (st : Int) (W : World) (hlv : IntsAt W lv ls) (hpv : IntsAt W pv ps) (hG : ErrT W) :
    Calls Tryd.prog 3 #[lv, pv, .int .i64 st] W fun e w' => e = .returned (.bool true) ∧ Below W.heap.size W w' := by
  obtain ⟨gl, cl, rfl, hll, hl⟩ := hlv
  obtain ⟨gp, cp, rfl, hpl, hp⟩ := hpv
  unfold maxLen at hll hpl
  have hGW : ∀ w, Below W.heap.size W w → ErrT w := fun w hb => by
    unfold ErrT at hG ⊢
    rw [hb.cell (World.block_lt_of_cell? _ _ hG), hG]
  obtain ⟨lf, hl1⟩ : ∃ lf : Nat → Int, ∀ w, Below W.heap.size W w → ∀ j, j < ls.length → ∃ b o, gl = some ⟨b, o, none⟩ ∧ w.cell? ⟨b, o + j, none⟩ = some (.int .i64 (lf j)) := ⟨_, hl⟩
  obtain ⟨pf, hp1⟩ : ∃ pf : Nat → Int, ∀ w, Below W.heap.size W w → ∀ j, j < ps.length → ∃ b o, gp = some ⟨b, o, none⟩ ∧ w.cell? ⟨b, o + j, none⟩ = some (.int .i64 (pf j)) := ⟨_, hp⟩
  clear hl hp
  go_enter Tryd.func3, Tryd.ntmps3
  go_wp2_with fail
  refine (known_true W W (allOf W) (allOf_sat W) (fun w h => hGW w (Sat.below_all (L := []) h))).mono ?_; rintro r w1 ⟨rfl, hs⟩
  go_wp2_with fail
  go_loopw [7, 8, 9] (fun ev wv iv wr => ∃ (i : Nat) (es : List ET) (ws : List Int) (Re Rw T : List Atom), iv = .int .i64 i ∧ i ≤ 20 ∧ i ≤ ls.length ∧ RowA 27 1 ev es.length (es.map val) Re ∧ RowA 3 1 wv ws.length (ints ws) Rw ∧ InL T es ∧ (∀ e ∈ es, Lost st e) ∧ nodesL es = ws ∧ ws.length = i ∧ es.length ≤ i ∧ (0 < i → es ≠ []) ∧ Sat W wr (Re ++ (Rw ++ (T ++ allOf W)))) (fun _ _ iv _ => (20 - (intOf iv).toNat))
  case atStart => exact ⟨0, [], [], [], [], [], rfl, Nat.zero_le _, Nat.zero_le _, RowA.nil _ _, RowA.nil _ _, InL.of (fun e h => by cases h), fun e h => (by cases h), rfl, rfl, Nat.le_refl _, fun h => absurd h (Nat.lt_irrefl _), hs⟩
  case round =>
    clear hs
    obtain ⟨i, es, ws, Re, Rw, T, rfl, hi, hil, hre, hrw, hin, hlo, hnd, hwl, hel, hne, hs⟩ := hrel
    have HND := Lib.hid hnd
    have HWL := Lib.hid hwl
    clear hnd hwl
    have b0 : (0 : Int) ≤ i := by omega
    by_cases hin1 : i < ls.length ∧ i < 20
    · obtain ⟨hin1, hin2⟩ := hin1
      have b1 : (i : Int) < ls.length := by omega
      have b2 : (i : Int) < 20 := by omega
      obtain ⟨b, o, rfl, hc⟩ := hl1 wr (Sat.below_all (L := Re ++ (Rw ++ T)) (by simpa using hs)) i hin1
      generalize lf i = kx at hc
      obtain ⟨aE, cE, rfl⟩ := Ca.RowA.slice hre
      obtain ⟨aW, cW, rfl⟩ := Ca.RowA.slice hrw
      go_wp2_with fail
      refine (hand_pick kx 50 _ (by omega) (by omega)).mono ?_; rintro r w4 ⟨rfl, rfl⟩
      generalize handPick kx 50 = n
      have hs1 : Sat W (wr.alloc (.cells #[.int .i64 n] 3)) (Rw ++ (cellsA wr.heap.size #[.int .i64 n] 3 :: (Re ++ (T ++ allOf W)))) := (hs.newCells _ _).use (by intro x; simp only [cnt_append, cnt_cons, cnt_nil]; omega)
      have hsrc : Reads (wr.alloc (.cells #[.int .i64 n] 3)) (.slice (some ⟨wr.heap.size, 0, none⟩) 1 1) [n].length (ints [n]) := by
        refine .inr ⟨_, _, rfl, fun j u hu => ?_⟩
        rw [add_row, hs1.cell (List.mem_append_right _ m0) (0 + j), ← hu]
        simp [ints]
      clear hs hc
      go_wp2_with (at_builtin; refine wpList_plain rfl (fun K hK => ?_); refine wp_append_int rfl ws [n] rfl rfl hrw hs1 hsrc (by have := HWL.out; simp; omega) (fun v1 w5 Rw1 hrw1 hs2 => ?_); refine hK _ _ ?_; simp only [Act.put, List.setIfInBounds_toArray, List.set_cons_zero, List.set_cons_succ]; clear hK)
      refine (at_node n (.code 5) W w5 _ hs2).mono ?_; rintro r w6 ⟨b1', rfl, hs3⟩
      simp only [val]
      have hs4 : Sat W (w6.alloc (.cells #[.iface 46 (.pointer (some ⟨b1', 0, none⟩))] 27)) (Re ++ (cellsA w6.heap.size #[.iface 46 (.pointer (some ⟨b1', 0, none⟩))] 27 :: (cellsA b1' #[.int .i64 n, val (.code 5)] 52 :: (Rw1 ++ (cellsA wr.heap.size #[.int .i64 n] 3 :: (T ++ allOf W)))))) := (hs3.newCells _ _).use (by intro x; simp only [cnt_append, cnt_cons, cnt_nil]; omega)
      have hsrc2 : Reads (w6.alloc (.cells #[.iface 46 (.pointer (some ⟨b1', 0, none⟩))] 27)) (.slice (some ⟨w6.heap.size, 0, none⟩) 1 1) [ET.on b1' n (.code 5)].length ([ET.on b1' n (.code 5)].map val) := by
        refine .inr ⟨_, _, rfl, fun j u hu => ?_⟩
        rw [add_row, hs4.cell (List.mem_append_right _ m0) (0 + j), ← hu]
        simp [val]
      clear hs1 hs2 hs3 hsrc
      go_upto_region 11 with (at_builtin; refine wpList_plain rfl (fun K hK => ?_); refine wp_append_err rfl es [ET.on b1' n (.code 5)] rfl rfl hre hs4 hsrc2 (by simp; omega) (fun v2 w7 Re2 hre2 hs5 => ?_); refine hK _ _ ?_; simp only [Act.put, List.setIfInBounds_toArray, List.set_cons_zero, List.set_cons_succ]; clear hK)
      have hs6 : Sat W w7 (Re2 ++ (Rw1 ++ ((cellsA b1' #[.int .i64 n, val (.code 5)] 52 :: T) ++ allOf W))) := hs5.use (by intro x; simp only [cnt_append, cnt_cons, cnt_nil]; omega)
      clear hs4 hs5 hsrc2 hre hrw
      have hin' : InL (cellsA b1' #[.int .i64 n, val (.code 5)] 52 :: T) (es ++ [ET.on b1' n (.code 5)]) := InL.of fun x hx => by
        rcases List.mem_append.1 hx with hx | hx
        · exact (hin.mem x hx).mono fun y hy => List.mem_cons_of_mem _ hy
        · rw [List.mem_singleton.1 hx]; exact In.on' (List.mem_cons_self ..) In.code'
      have hlo' : ∀ x ∈ es ++ [ET.on b1' n (.code 5)], Lost st x := fun x hx => by
        rcases List.mem_append.1 hx with hx | hx
        · exact hlo x hx
        · rw [List.mem_singleton.1 hx]; exact Lost.on st b1' n
      have hnd' : nodesL (es ++ [ET.on b1' n (.code 5)]) = ws ++ [n] := by rw [nodesL_append, nodesL_one, HND.out]
      have hel' : (es ++ [ET.on b1' n (.code 5)]).length ≤ i + 1 := by simp; omega
      have hne' : es ++ [ET.on b1' n (.code 5)] ≠ [] := by simp
      have hwl' : (ws ++ [n]).length = i + 1 := by have := HWL.out; simp; omega
      have HND2 := Lib.hid hnd'
      have HWL2 := Lib.hid hwl'
      clear hin hlo hnd' hwl' HND HWL hel hne
      generalize es ++ [ET.on b1' n (.code 5)] = es2 at *
      generalize ws ++ [n] = ws2 at *
      generalize cellsA b1' #[.int .i64 n, val (.code 5)] 52 :: T = T2 at *
      obtain ⟨aE2, cE2, rfl⟩ := Ca.RowA.slice hre2
      by_cases hip : i < ps.length
      · have q1 : (i : Int) < ps.length := by omega
        obtain ⟨bp, op, rfl, hc⟩ := hp1 w7 (Sat.below_all (L := Re2 ++ (Rw1 ++ T2)) (by simpa using hs6)) i hip
        generalize pf i = px at hc
        by_cases hpx : px.tmod 3 = 0
        · have q2 : (px.tmod 3 == 0) = true := by simpa using hpx
          go_wp2_with fail
          refine (join_lost st W w7 _ T2 _ es2 hne' hs6 ⟨by simp; omega, Re2, by simpa using hre2, fun x hx => List.mem_append_left _ hx⟩ hin' hlo').mono ?_; rintro r w8 ⟨e3, N, rfl, hin3, hlo3, hnd3, hs7⟩
          have HND3 := Lib.hid hnd3
          clear hnd3
          go_wp2_with fail
          refine (of_stripe st e3 W w8 _ hs7).mono ?_; rintro r w9 ⟨b3, rfl, hs8⟩
          simp only [val]
          have hr0 : Sat W (w9.alloc (.cells #[.iface 47 (.pointer (some ⟨b3, 0, none⟩))] 27)) ((w9.heap.size, rowP 27 0 (1 * 1) [.iface 47 (.pointer (some ⟨b3, 0, none⟩))]) :: (cellsA b3 #[.int .i64 st, val e3] 54 :: (N ++ (Re2 ++ (Rw1 ++ (T2 ++ allOf W)))))) := row_new hs8 _ _
          have hs9 : Sat W (w9.alloc (.cells #[.iface 47 (.pointer (some ⟨b3, 0, none⟩))] 27)) ([(w9.heap.size, rowP 27 0 (1 * 1) [.iface 47 (.pointer (some ⟨b3, 0, none⟩))])] ++ (Rw1 ++ ((cellsA b3 #[.int .i64 st, val e3] 54 :: (N ++ T2)) ++ allOf W))) := hr0.use (by intro x; simp only [cnt_append, cnt_cons, cnt_nil]; omega)
          clear hs6 hs7 hs8 hc hr0
          go_wp2_with fail
          refine ⟨⟨i + 1, [ET.of b3 st e3], ws2, _, Rw1, cellsA b3 #[.int .i64 st, val e3] 54 :: (N ++ T2), by simp, by omega, by omega, ⟨rfl, .inr ⟨w9.heap.size, 0, 1, rfl, Nat.le_refl _, by decide, rfl⟩⟩, hrw1, InL.of fun x hx => ?_, fun x hx => ?_, ?_, HWL2.out, by simp, fun _ => by simp, hs9⟩, ?_⟩
          · rw [List.mem_singleton.1 hx]
            exact In.of' (List.mem_cons_self ..) (hin3.mono fun y hy => List.mem_cons_of_mem _ hy)
          · rw [List.mem_singleton.1 hx]; exact Lost.ofs hlo3 b3
          · rw [nodesL_of, HND3.out, HND2.out]
          · simp [intOf]
            omega
        · have q2 : (px.tmod 3 == 0) = false := by simpa using hpx
          go_wp2_with fail
          refine ⟨⟨i + 1, es2, ws2, Re2, Rw1, T2, by simp, by omega, by omega, hre2, hrw1, hin', hlo', HND2.out, HWL2.out, hel', fun _ => hne', hs6⟩, ?_⟩
          simp [intOf]
          omega
      · have q1 : ¬ (i : Int) < ps.length := by omega
        go_wp2_with fail
        refine ⟨⟨i + 1, es2, ws2, Re2, Rw1, T2, by simp, by omega, by omega, hre2, hrw1, hin', hlo', HND2.out, HWL2.out, hel', fun _ => hne', hs6⟩, ?_⟩
        simp [intOf]
        omega
    · obtain ⟨aE, cE, rfl⟩ := Ca.RowA.slice hre
      obtain ⟨aW, cW, rfl⟩ := Ca.RowA.slice hrw
      by_cases hx1 : i < ls.length
      · have q1 : (i : Int) < ls.length := by omega
        have q2 : ¬ (i : Int) < 20 := by omega
        have hi0 : ¬ i = 0 := by omega
        have hws : ws.length = i := HWL.out
        have hw0 : (ws.length == 0) = false := by simp only [beq_eq_false_iff_ne, ne_eq]; omega
        have hw1 : ((ws.length : Int) == 0) = false := by simp only [beq_eq_false_iff_ne, ne_eq]; omega
        have hw2 : ¬ (ws.length : Int) = 0 := by omega
        have hsz : ws.length < 100000 := by omega
        clear hws
        go_wp2_with fail
        refine (join_lost st W wr _ T _ es (hne (by omega)) hs ⟨by simp; omega, Re, by simpa using hre, fun x hx => List.mem_append_left _ hx⟩ hin hlo).mono ?_; rintro r w8 ⟨e3, N, rfl, hin3, hlo3, hnd3, hs7⟩
        have hnd4 : nodesE e3 = ws := by rw [hnd3, HND.out]
        have HND4 := Lib.hid hnd4
        have n1 := neq_val e3
        have n2 := guardn_nil e3
        clear hnd3 hnd4 hs hin hlo
        have hs8 : Sat W w8 ((N ++ T) ++ (Rw ++ (Re ++ allOf W))) := hs7.use (by intro x; simp only [cnt_append, cnt_cons, cnt_nil]; omega)
        clear hs7
        go_wp2_with fail
        refine (stripe_any e3 W w8 (N ++ T) _ hin3 (hGW _ (Sat.below_all (L := Rw ++ Re) (by simpa using hs8.right))) hs8).mono ?_; rintro r w9 ⟨rfl, hs9⟩
        clear hs8
        go_wp2_with fail
        refine (nodes_any e3.size e3 (Nat.le_refl _) (by rw [HND4.out]; exact hsz) W w9 (N ++ T) _ hin3 hs9).mono ?_; rintro r w10 ⟨v10, R10, rfl, hr10, hs10⟩
        rw [HND4.out] at hr10
        clear hs9
        go_wp2_with fail
        refine (same_any W w10 _ v10 _ ws ws R10 Rw hs10 hr10 hrw (fun x hx => List.mem_append_left _ hx) (fun x hx => List.mem_append_right _ (List.mem_append_right _ (List.mem_append_left _ hx))) (by omega)).mono ?_; rintro r w11 ⟨rfl, hs11⟩
        simp only [decide_true]
        have hs12 := hs11.right
        clear hs10 hs11
        go_wp2_with fail
        refine (code_any e3 W w11 (N ++ T) _ hin3 (hGW _ (Sat.below_all (L := Rw ++ Re) (by simpa using hs12.right))) hs12).mono ?_; rintro r w12 ⟨rfl, hs13⟩
        rw [show codeOf (some e3) = 5 by simp only [codeOf, hlo3.code]]
        clear hs12
        go_wp2_with fail
        refine (causeIs e3 5 W w12 (N ++ T) _ hin3 hs13).mono ?_; rintro r w13 ⟨rfl, hs14⟩
        rw [hlo3.has]
        clear hs13
        go_wp2_with fail
        refine (causeIs e3 4 W w13 (N ++ T) _ hin3 hs14).mono ?_; rintro r w14 ⟨rfl, hs15⟩
        rw [hlo3.no]
        clear hs14
        have hB : Below W.heap.size W w14 := Sat.below_all (L := Rw ++ Re) (by simpa using hs15.right)
        have hof := hlo3.of
        cases ho : of1 e3 with
        | none =>
          simp only [stripeN, Option.isSome_none]
          clear ho hof
          go_wp2_with fail
          go_ret
          exact ⟨by simp, hB⟩
        | some p =>
          have hp2 : p.2 = st := hof p ho
          obtain ⟨pb, pn⟩ := p
          simp only at hp2
          subst hp2
          simp only [stripeN, Option.isSome_some]
          clear ho hof
          go_wp2_with fail
          go_ret
          exact ⟨by simp, hB⟩
      · have q1 : ¬ (i : Int) < ls.length := by omega
        by_cases hi0 : i = 0
        · have hz : i = 0 := hi0
          subst hi0
          obtain rfl : es = [] := List.eq_nil_of_length_eq_zero (by omega)
          obtain rfl : ws = [] := List.eq_nil_of_length_eq_zero HWL.out
          go_wp2_with fail
          refine (join_any W wr _ _ [] hs ⟨by simp, Re, by simpa using hre, fun x hx => List.mem_append_left _ hx⟩).mono ?_
          rintro r w8 ⟨rfl, hs7⟩
          go_wp2_with fail
          go_ret
          exact ⟨rfl, Sat.below_all (L := Re ++ (Rw ++ T)) (by simpa using hs7)⟩
        · have hi1 : 0 < i := by omega
          have hws : ws.length = i := HWL.out
          have hw0 : (ws.length == 0) = false := by simp only [beq_eq_false_iff_ne, ne_eq]; omega
          have hw1 : ((ws.length : Int) == 0) = false := by simp only [beq_eq_false_iff_ne, ne_eq]; omega
          have hw2 : ¬ (ws.length : Int) = 0 := by omega
          have hsz : ws.length < 100000 := by omega
          clear hws
          go_wp2_with fail
          refine (join_lost st W wr _ T _ es (hne (by omega)) hs ⟨by simp; omega, Re, by simpa using hre, fun x hx => List.mem_append_left _ hx⟩ hin hlo).mono ?_; rintro r w8 ⟨e3, N, rfl, hin3, hlo3, hnd3, hs7⟩
          have hnd4 : nodesE e3 = ws := by rw [hnd3, HND.out]
          have HND4 := Lib.hid hnd4
          have n1 := neq_val e3
          have n2 := guardn_nil e3
          clear hnd3 hnd4 hs hin hlo
          have hs8 : Sat W w8 ((N ++ T) ++ (Rw ++ (Re ++ allOf W))) := hs7.use (by intro x; simp only [cnt_append, cnt_cons, cnt_nil]; omega)
          clear hs7
          go_wp2_with fail
          refine (stripe_any e3 W w8 (N ++ T) _ hin3 (hGW _ (Sat.below_all (L := Rw ++ Re) (by simpa using hs8.right))) hs8).mono ?_; rintro r w9 ⟨rfl, hs9⟩
          clear hs8
          go_wp2_with fail
          refine (nodes_any e3.size e3 (Nat.le_refl _) (by rw [HND4.out]; exact hsz) W w9 (N ++ T) _ hin3 hs9).mono ?_; rintro r w10 ⟨v10, R10, rfl, hr10, hs10⟩
          rw [HND4.out] at hr10
          clear hs9
          go_wp2_with fail
          refine (same_any W w10 _ v10 _ ws ws R10 Rw hs10 hr10 hrw (fun x hx => List.mem_append_left _ hx) (fun x hx => List.mem_append_right _ (List.mem_append_right _ (List.mem_append_left _ hx))) (by omega)).mono ?_; rintro r w11 ⟨rfl, hs11⟩
          simp only [decide_true]
          have hs12 := hs11.right
          clear hs10 hs11
          go_wp2_with fail
          refine (code_any e3 W w11 (N ++ T) _ hin3 (hGW _ (Sat.below_all (L := Rw ++ Re) (by simpa using hs12.right))) hs12).mono ?_; rintro r w12 ⟨rfl, hs13⟩
          rw [show codeOf (some e3) = 5 by simp only [codeOf, hlo3.code]]
          clear hs12
          go_wp2_with fail
          refine (causeIs e3 5 W w12 (N ++ T) _ hin3 hs13).mono ?_; rintro r w13 ⟨rfl, hs14⟩
          rw [hlo3.has]
          clear hs13
          go_wp2_with fail
          refine (causeIs e3 4 W w13 (N ++ T) _ hin3 hs14).mono ?_; rintro r w14 ⟨rfl, hs15⟩
          rw [hlo3.no]
          clear hs14
          have hB : Below W.heap.size W w14 := Sat.below_all (L := Rw ++ Re) (by simpa using hs15.right)
          have hof := hlo3.of
          cases ho : of1 e3 with
          | none =>
            simp only [stripeN, Option.isSome_none]
            clear ho hof
            go_wp2_with fail
            go_ret
            exact ⟨by simp, hB⟩
          | some p =>
            have hp2 : p.2 = st := hof p ho
            obtain ⟨pb, pn⟩ := p
            simp only at hp2
            subst hp2
            simp only [stripeN, Option.isSome_some]
            clear ho hof
            go_wp2_with fail
            go_ret
            exact ⟨by simp, hB⟩
end Go.Proofs.YtoknokbbggnmjaaDoor.Ca
