/-
  Chapter 1's laws: what grow says of a tree; rows of it; Pick, digits, errors.New.
-/
import Derived.Test.YtoknokbbggnmjaaDoorCaT
import Derived.Test.YtoknokbbggnmjaaDoorCaI
import Derived.Test.YtoknokbbggnmjaaDoorCaK
namespace Go.Proofs.YtoknokbbggnmjaaDoor.Ca
set_option linter.unusedSimpArgs false
open Go Go.RowKit Go.Sl Go.Extern.Stop Go.Stop Go.Extern
set_option linter.unusedVariables false

/-- corbelhand.Pick. -/
def handPick (x m : Int) : Int := if x.tmod m < 0 then x.tmod m + m else x.tmod m
theorem handPick_bounds (x m : Int) (hm : 0 < m) : 0 ≤ handPick x m ∧ handPick x m < m := by
  have b1 : x.tmod m < m := Int.tmod_lt_of_pos _ hm
  have b2 : -m < x.tmod m := by
    have := Int.tmod_lt_of_pos (-x) hm
    rw [Int.neg_tmod] at this
    omega
  unfold handPick
  split <;> omega
theorem hand_pick (x m : Int) (w : World) (hm : 0 < m) (hm2 : m < 1000000) :
    Calls Tryd.prog 9 #[.int .i64 x, .int .i64 m] w fun e w' => e = .returned (.int .i64 (handPick x m)) ∧ w = w' := by
  have b1 : x.tmod m < m := Int.tmod_lt_of_pos _ hm
  have b2 : -m < x.tmod m := by
    have := Int.tmod_lt_of_pos (-x) hm
    rw [Int.neg_tmod] at this
    omega
  unfold handPick
  by_cases h0 : x.tmod m < 0
  · have d1 : decide (x.tmod m < 0) = true := by simpa using h0
    rw [if_pos h0]
    have b3 : (0 : Int) ≤ x.tmod m + m := by omega
    have b4 : x.tmod m + m < 1000000 := by omega
    go_enter Tryd.func9, Tryd.ntmps9
    go_wp2_with fail
    go_ret
    exact ⟨rfl, rfl⟩
  · have d1 : decide (x.tmod m < 0) = false := by simpa using h0
    rw [if_neg h0]
    go_enter Tryd.func9, Tryd.ntmps9
    go_wp2_with fail
    go_ret
    exact ⟨rfl, rfl⟩

set_option maxRecDepth 100000 in
theorem digits_any (n : Int) (h0 : 0 ≤ n) (h9 : n ≤ 9) (w : World) :
    Calls Tryd.prog 26 #[.int .i64 n] w fun e w' => e = .returned (str (dg n)) ∧ Below w.heap.size w w' := by
  have cv := conv1 (w.alloc (.cells #[.int .u8 (48 + n)] 5)) w.heap.size (48 + n) (by omega) (by omega) (by go_simp)
  rw [show (48 + n).toNat = 48 + n.toNat by omega] at cv
  have n10 : n < 10 := by omega
  go_enter Tryd.func26, Tryd.ntmps26
  go_wp2_with fail
  go_ret
  refine ⟨?_, (Below.refl _ w).alloc (Nat.le_refl _) _⟩
  simp [dg]

theorem errors_new (s : ByteArray) (W w : World) (L : List Atom) (hs : Sat W w L) :
    Calls Tryd.prog 22 #[.string s] w fun r w' => ∃ b, r = .returned (val (.other b s)) ∧ Sat W w' (cellsA b #[.string s] 91 :: L) := by
  have hs1 := hs.newCells #[.string s] 91
  go_enter Tryd.func22, Tryd.ntmps22
  go_wp2_with fail
  go_ret
  exact ⟨_, rfl, hs1⟩

def stripeO : Option (Nat × Int) → Int
  | none => 0
  | some p => p.2
def code0 (e : ET) : Int := (code1 e).getD 0
/-- The nodes that a slice value holds, in blocks of T. -/
def NodesAt (T : List Atom) (v : Value) (ns : List Int) : Prop := ∃ R, RowA 3 1 v ns.length (ints ns) R ∧ ∀ x ∈ R, x ∈ T
theorem NodesAt.mono {T U : List Atom} {v : Value} {ns : List Int} (h : NodesAt T v ns) (hTU : ∀ x ∈ T, x ∈ U) : NodesAt U v ns := by
  obtain ⟨R, h1, h2⟩ := h
  exact ⟨R, h1, fun x hx => hTU _ (h2 x hx)⟩
theorem NodesAt.nil (T : List Atom) : NodesAt T (.slice none 0 0) [] := ⟨[], RowA.nil _ _, fun x hx => by cases hx⟩

theorem NodesAt.slice {T : List Atom} {v : Value} {ns : List Int} (h : NodesAt T v ns) : ∃ a n c, v = .slice a n c := by
  obtain ⟨R, h1, _⟩ := h
  obtain ⟨a, c, e⟩ := Ca.RowA.slice h1
  exact ⟨a, _, c, e⟩
/-- A tree and the slice of its nodes. -/
abbrev PT := ET × Value
def cells5 (p : PT) : List Value := [.int .i64 (code0 p.1), p.2, .int .i64 (stripeO (of1 p.1)), .bool (of1 p.1).isSome, str (textE p.1)]
def flatP (P : List PT) : List Value := P.flatMap cells5
def vals (P : List PT) : List Value := P.map fun p => val p.1
theorem flatP_length (P : List PT) : (flatP P).length = P.length * 5 := by
  induction P with
  | nil => rfl
  | cons p P ih => simp only [flatP, List.flatMap_cons, List.length_append] at ih ⊢; rw [ih]; simp [cells5]; omega
theorem flatP_append (P Q : List PT) : flatP (P ++ Q) = flatP P ++ flatP Q := by simp [flatP]
theorem flatP_one (p : PT) : flatP [p] = cells5 p := by simp [flatP]
theorem vals_append (P Q : List PT) : vals (P ++ Q) = vals P ++ vals Q := by simp [vals]
theorem vals_length (P : List PT) : (vals P).length = P.length := by simp [vals]
theorem flatP_getD {P : List PT} {k : Nat} {p : PT} (h : P[k]? = some p) (j : Nat) (hj : j < 5) : (flatP P)[k * 5 + j]? = (cells5 p)[j]? := by
  induction P generalizing k with
  | nil => simp at h
  | cons q P ih =>
    have e : flatP (q :: P) = cells5 q ++ flatP P := by simp [flatP]
    have l5 : (cells5 q).length = 5 := rfl
    cases k with
    | zero =>
      have : q = p := by simpa using h
      subst this
      rw [e, List.getElem?_append_left (by omega)]
      congr 1
      omega
    | succ k =>
      rw [e, List.getElem?_append_right (by omega)]
      have := ih (k := k) (by simpa using h)
      rw [← this]
      congr 1
      omega
theorem set_last (P : List PT) (p : PT) (j : Nat) (u : Value) (hj : j < 5) : (flatP (P ++ [p])).set (P.length * 5 + j) u = flatP P ++ (cells5 p).set j u := by
  rw [flatP_append, flatP_one, List.set_append_right _ _ (by rw [flatP_length]; omega), flatP_length]
  congr 2
  omega
theorem vals_last (P : List PT) (p : PT) (u : Value) : (vals (P ++ [p])).set P.length u = vals P ++ [u] := by
  rw [vals_append, List.set_append_right _ _ (by rw [vals_length]; omega), vals_length, Nat.sub_self]
  rfl

mutual
/-- No code is 0. -/
def Pos : ET → Prop
  | .code n => n ≠ 0
  | .other _ _ => True
  | .on _ _ e => Pos e
  | .of _ _ e => Pos e
  | .all _ _ es => PosL es
def PosL : List ET → Prop
  | [] => True
  | e :: es => Pos e ∧ PosL es
end
theorem PosL.of : ∀ {es : List ET}, (∀ e ∈ es, Pos e) → PosL es
  | [], _ => by unfold PosL; trivial
  | x :: es, h => by
    unfold PosL
    exact ⟨h x (List.mem_cons_self ..), PosL.of fun e he => h e (List.mem_cons_of_mem _ he)⟩
theorem DigsL.of : ∀ {es : List ET}, (∀ e ∈ es, Digs e) → DigsL es
  | [], _ => by unfold DigsL; trivial
  | x :: es, h => by
    unfold DigsL
    exact ⟨h x (List.mem_cons_self ..), DigsL.of fun e he => h e (List.mem_cons_of_mem _ he)⟩
mutual
theorem code1_ne : ∀ {e : ET}, Pos e → code1 e ≠ some 0
  | .code n, h => by unfold Pos at h; unfold code1; simpa using h
  | .other _ _, h => by unfold code1; simp
  | .on _ _ e, h => by unfold Pos at h; unfold code1; exact code1_ne h
  | .of _ _ e, h => by unfold Pos at h; unfold code1; exact code1_ne h
  | .all _ _ es, h => by unfold Pos at h; unfold code1; exact codeL_ne h
theorem codeL_ne : ∀ {es : List ET}, PosL es → codeL es ≠ some 0
  | [], h => by unfold codeL; simp
  | e :: es, h => by
    unfold PosL at h
    unfold codeL
    have h1 := code1_ne h.1
    cases hc : code1 e with
    | none => exact codeL_ne h.2
    | some n => rw [hc] at h1; exact h1
end
theorem codeL_snoc : ∀ (es : List ET) (x : ET), codeL (es ++ [x]) = (codeL es).or (code1 x)
  | [], x => by rw [List.nil_append]; unfold codeL; cases code1 x <;> simp [codeL]
  | e :: es, x => by
    rw [List.cons_append]
    unfold codeL
    cases code1 e with
    | none => exact codeL_snoc es x
    | some n => rfl
theorem ofL_snoc : ∀ (es : List ET) (x : ET), ofL (es ++ [x]) = (ofL es).or (of1 x)
  | [], x => by rw [List.nil_append]; unfold ofL; cases of1 x <;> simp [ofL]
  | e :: es, x => by
    rw [List.cons_append]
    unfold ofL
    cases of1 e with
    | none => exact ofL_snoc es x
    | some n => rfl
theorem nodesL_snoc : ∀ (es : List ET) (x : ET), nodesL (es ++ [x]) = nodesL es ++ nodesE x
  | [], x => by simp [nodesL]
  | e :: es, x => by simp only [List.cons_append, nodesL]; rw [nodesL_snoc es x, List.append_assoc]
theorem textL_snoc (es : List ET) (x : ET) : textL (es ++ [x]) = textL es ++ [textE x] := by simp [textL_map]
theorem join_snoc (sep : List UInt8) (l : List (List UInt8)) (x : List UInt8) (h : l ≠ []) : Lib.join (l ++ [x]) sep = Lib.join l sep ++ sep ++ x := by
  cases l with
  | nil => exact absurd rfl h
  | cons y l => rw [List.cons_append, Lib.join_cons, Lib.join_cons]; simp [Lib.joinTail]
theorem code_or {a b : Option Int} (ha : a ≠ some 0) : (a.or b).getD 0 = if a.getD 0 = 0 then b.getD 0 else a.getD 0 := by
  cases a with
  | none => simp
  | some n =>
    have : n ≠ 0 := fun h => ha (by rw [h])
    simp [this]
theorem stripe_or (a b : Option (Nat × Int)) : stripeO (a.or b) = if a.isSome then stripeO a else stripeO b := by cases a <;> rfl
theorem some_or (a b : Option (Nat × Int)) : (a.or b).isSome = (a.isSome || b.isSome) := by cases a <;> rfl

/-- How long the texts are, their separators too. -/
def span (P : List PT) : Nat := (P.map fun p => (textE p.1).length + 2).sum
theorem span_append (P Q : List PT) : span (P ++ Q) = span P + span Q := by simp [span]
theorem span_one (p : PT) : span [p] = (textE p.1).length + 2 := by simp [span]
theorem span_mem : ∀ {P : List PT} {p : PT}, p ∈ P → (textE p.1).length + 2 ≤ span P
  | [], p, h => by cases h
  | q :: P, p, h => by
    have e : span (q :: P) = (textE q.1).length + 2 + span P := by simp [span]
    rw [e]
    rcases List.mem_cons.1 h with rfl | h
    · omega
    · have := span_mem h; omega
theorem join_span : ∀ (P : List PT), P ≠ [] → (Lib.join (textL (P.map (·.1))) tSemi).length + 2 = span P
  | [], h => absurd rfl h
  | [p], _ => by simp [textL, Lib.join_one, span]
  | p :: q :: P, _ => by
    have ih := join_span (q :: P) (by simp)
    have e : span (p :: q :: P) = (textE p.1).length + 2 + span (q :: P) := by simp [span]
    rw [e, ← ih]
    simp only [List.map_cons, textL]
    rw [Lib.join_cons, Lib.join_cons]
    simp [Lib.joinTail, tSemi]
    omega
mutual
theorem nodes_text : ∀ (e : ET), (nodesE e).length ≤ (textE e).length
  | .code n => by simp [nodesE]
  | .other _ _ => by simp [nodesE]
  | .on _ _ e => by have := nodes_text e; simp [nodesE, textE, tNode]; omega
  | .of _ _ e => by have := nodes_text e; simp [nodesE, textE]; omega
  | .all _ _ es => by have := nodes_textL es; simp only [nodesE, textE]; omega
theorem nodes_textL : ∀ (es : List ET), (nodesL es).length ≤ (Lib.join (textL es) tSemi).length
  | [] => by simp [nodesL]
  | [e] => by have := nodes_text e; simp [nodesL, textL, Lib.join_one]; omega
  | e :: x :: es => by
    have h1 := nodes_text e
    have h2 := nodes_textL (x :: es)
    have ej : Lib.join (textL (e :: x :: es)) tSemi = textE e ++ (tSemi ++ Lib.join (textL (x :: es)) tSemi) := by
      simp only [textL]
      rw [Lib.join_cons, Lib.join_cons]; simp [Lib.joinTail]
    rw [ej, nodesL]
    simp only [List.length_append]
    omega
end

/-- What grow knows of a tree and its nodes' slice. -/
structure Tells (T : List Atom) (p : PT) : Prop where
  inT : In T p.1
  nodes : NodesAt T p.2 (nodesE p.1)
  digs : Digs p.1
  pos : Pos p.1
theorem Tells.mono {T U : List Atom} {p : PT} (h : Tells T p) (hTU : ∀ x ∈ T, x ∈ U) : Tells U p := ⟨h.inT.mono hTU, h.nodes.mono hTU, h.digs, h.pos⟩

theorem infoSaid : (Tryd.prog.info? 43).map (fun i => (i.zero.map (·.cells.size), i.size, i.bytes)) = some (some 5, 5, 64) := by kernel_rfl
theorem cells5_one (P : List PT) (h : ∀ p ∈ P, p.2.oneCell' = true) : ∀ u ∈ flatP P, u.oneCell' = true := fun u hu => by
  obtain ⟨p, hp, hu⟩ := List.mem_flatMap.1 hu
  have h2 := h p hp
  simp only [cells5, List.mem_cons, List.not_mem_nil, or_false] at hu
  rcases hu with rfl | rfl | rfl | rfl | rfl <;> first | rfl | exact h2
section
variable {W w : World} {F L A : List Atom} {v sv : Value} {o : Oper} {a : Act} {K : Act → World → Prop} {Q : Exit → Act → World → Prop}
theorem wp_append_said {x y : Operand} (ho : o.op = .call { callee := .builtin .append, args := #[x, y], argTypes := #[74, 74] }) (l m : List PT) (hv : a.eval x = v) (hsv : a.eval y = sv)
    (hr : RowA 43 5 v l.length (flatP l) A) (hs : Sat W w (A ++ F)) (hsrc : Reads w sv m.length (flatP m)) (hm : ∀ p ∈ m, p.2.oneCell' = true) (hb : l.length + m.length < 1000000)
    (h : ∀ v' w' A', RowA 43 5 v' (l ++ m).length (flatP (l ++ m)) A' → Sat W w' (A' ++ F) → K (a.put o.dst v') w') : o.wp Tryd.prog a w K Q := by
  obtain ⟨i0, hi, hq⟩ := Option.map_eq_some_iff.1 infoSaid
  simp only [Prod.mk.injEq] at hq
  obtain ⟨hz0, hz1, hz2⟩ := hq
  obtain ⟨z, hz, hzs⟩ := Option.map_eq_some_iff.1 hz0
  obtain ⟨v2, w2, R2, hra, hrow, hs2⟩ := append_sl (P := Tryd.prog) (size := 5) (bytes := 64) o.type Tryd.underlying74 hi hz hz1 hz2 hzs (by decide) hr hs hsrc (flatP_length m) (cells5_one m hm) (by unfold maxLen; omega) (by omega)
  refine wp_append ho (by rw [hv, hsv]; exact hra) (h _ _ _ ?_ hs2)
  rw [List.length_append, flatP_append]
  exact hrow
end

section
variable {W w : World} {F L A : List Atom} {v sv : Value} {o : Oper} {a : Act} {K : Act → World → Prop} {Q : Exit → Act → World → Prop}
theorem wp_append_vals {x y : Operand} (ho : o.op = .call { callee := .builtin .append, args := #[x, y], argTypes := #[24, 24] }) (l m : List PT) (hv : a.eval x = v) (hsv : a.eval y = sv)
    (hr : RowA 27 1 v l.length (vals l) A) (hs : Sat W w (A ++ F)) (hsrc : Reads w sv m.length (vals m)) (hb : l.length + m.length < 1000000)
    (h : ∀ v' w' A', RowA 27 1 v' (l ++ m).length (vals (l ++ m)) A' → Sat W w' (A' ++ F) → K (a.put o.dst v') w') : o.wp Tryd.prog a w K Q := by
  obtain ⟨i0, hi, hz0, hz1, hz2⟩ := info_parts infoErr
  obtain ⟨v2, w2, R2, hra, hrow, hs2⟩ := append_sl (P := Tryd.prog) o.type Tryd.underlying24 hi hz0 hz1 hz2 rfl (by decide) hr hs hsrc (by simp [vals]) (fun u hu => by obtain ⟨p, _, rfl⟩ := List.mem_map.1 hu; exact val_one p.1) (by unfold maxLen; omega) (by omega)
  refine wp_append ho (by rw [hv, hsv]; exact hra) (h _ _ _ ?_ hs2)
  rw [List.length_append, vals_append]
  exact hrow
end
theorem sat_new {W w : World} {A G : List Atom} (hs : Sat W w (A ++ G)) {cs : Array Value} {T : TypeId} : Sat W (w.alloc (.cells cs T)) (A ++ (cellsA w.heap.size cs T :: G)) := (hs.newCells cs T).use (by intro x; simp only [cnt_append, cnt_cons, cnt_nil]; omega)
theorem reads_new5 (w : World) (cs : Array Value) (T : TypeId) (p : PT) (h : cs.toList = cells5 p) : Reads (w.alloc (.cells cs T)) (.slice (some ⟨w.heap.size, 0, none⟩) 1 1) [p].length (flatP [p]) := by
  refine .inr ⟨_, _, rfl, fun j u hu => ?_⟩
  rw [add_row, cell_at (heap_alloc_new w _) (0 + j), flatP_one, ← h] at *
  simpa using hu
theorem reads_new1 (w : World) (cs : Array Value) (T : TypeId) (p : PT) (h : cs.toList = [val p.1]) : Reads (w.alloc (.cells cs T)) (.slice (some ⟨w.heap.size, 0, none⟩) 1 1) [p].length (vals [p]) := by
  refine .inr ⟨_, _, rfl, fun j u hu => ?_⟩
  rw [add_row, cell_at (heap_alloc_new w _) (0 + j)]
  have : vals [p] = cs.toList := by rw [h]; rfl
  rw [this] at hu
  simpa using hu
theorem row_new1 {W w : World} {L : List Atom} (h : Sat W w L) (u : Value) (e : TypeId) : Sat W (w.alloc (.cells #[u] e)) ([(w.heap.size, rowP e 0 (1 * 1) [u])] ++ L) := row_new h #[u] e
theorem at_node2 (n : Int) (e : ET) (W w : World) (L : List Atom) (hs : Sat W w L) :
    Calls Tryd.prog 10 #[.int .i64 n, val e] w fun r w' => ∃ b, r = .returned (.iface 46 (.pointer (some ⟨b, 0, none⟩))) ∧ Sat W w' (cellsA b #[.int .i64 n, val e] 52 :: L) := at_node n e W w L hs
theorem of_stripe2 (n : Int) (e : ET) (W w : World) (L : List Atom) (hs : Sat W w L) :
    Calls Tryd.prog 11 #[.int .i64 n, val e] w fun r w' => ∃ b, r = .returned (.iface 47 (.pointer (some ⟨b, 0, none⟩))) ∧ Sat W w' (cellsA b #[.int .i64 n, val e] 54 :: L) := of_stripe n e W w L hs
abbrev rowE (g o c : Nat) (xs : List Value) : List Atom := [(g, rowP 27 o (c * 1) xs)]
abbrev rowS (g o c : Nat) (xs : List Value) : List Atom := [(g, rowP 43 o (c * 5) xs)]
theorem rowE_len (g o c : Nat) (xs : List Value) : (rowE g o c xs).length = 1 := rfl
theorem row_cell {W w : World} {e : TypeId} {g o len : Nat} {xs : List Value} {G : List Atom} (hs : Sat W w ([(g, rowP e o len xs)] ++ G)) (j : Nat) (u : Value) (hj : xs[j]? = some u) : w.cell? ⟨g, o + j, none⟩ = some u ∧ w.frozen? ⟨g, o + j, none⟩ = false := by
  obtain ⟨ob, ho, hp⟩ := hs.get (List.mem_append_left _ (List.mem_singleton.2 rfl))
  have hjl := (List.getElem?_eq_some_iff.1 hj).1
  obtain ⟨h1, h2⟩ := hp.cell ho j hjl
  exact ⟨by rw [h1, hj], h2⟩
theorem flat_at (Q : List PT) (xs : List Value) (j : Nat) : (flatP Q ++ xs)[Q.length * 5 + j]? = xs[j]? := by
  rw [List.getElem?_append_right (by rw [flatP_length]; omega), flatP_length]
  congr 1; omega
theorem vals_at (Q : List PT) (u : Value) : (vals Q ++ [u])[Q.length]? = some u := by
  rw [List.getElem?_append_right (by rw [vals_length]; exact Nat.le_refl _), vals_length, Nat.sub_self]; rfl
theorem flat_set (Q : List PT) (xs : List Value) (j : Nat) (u : Value) : (flatP Q ++ xs).set (Q.length * 5 + j) u = flatP Q ++ xs.set j u := by
  rw [List.set_append_right _ _ (by rw [flatP_length]; omega), flatP_length]
  congr 2; omega
theorem vals_set (Q : List PT) (x u : Value) : (vals Q ++ [x]).set Q.length u = vals Q ++ [u] := by
  rw [List.set_append_right _ _ (by rw [vals_length]; exact Nat.le_refl _), vals_length, Nat.sub_self]; rfl
theorem row_put {W w : World} {e : TypeId} {g o len : Nat} {xs : List Value} {G : List Atom} (hs : Sat W w ([(g, rowP e o len xs)] ++ G)) (j : Nat) (hj : j < xs.length) (u : Value) : Sat W (w.setCell ⟨g, o + j, none⟩ u) ([(g, rowP e o len (xs.set j u))] ++ G) := row_store hs j hj u
theorem row_mkE {g o c : Nat} {Q : List PT} (p : PT) (h : Q.length + 1 ≤ c) (h2 : c ≤ maxLen) : RowA 27 1 (.slice (some ⟨g, o, none⟩) (Q.length + 1) c) (Q ++ [p]).length (vals (Q ++ [p])) (rowE g o c (vals Q ++ [val p.1])) := by
  rw [List.length_append, vals_append]
  exact ⟨by simp [vals_length], .inr ⟨g, o, c, rfl, h, h2, rfl⟩⟩
theorem row_mkS {g o c : Nat} {Q : List PT} (p : PT) (h : Q.length + 1 ≤ c) (h2 : c ≤ maxLen) : RowA 43 5 (.slice (some ⟨g, o, none⟩) (Q.length + 1) c) (Q ++ [p]).length (flatP (Q ++ [p])) (rowS g o c (flatP Q ++ cells5 p)) := by
  rw [List.length_append, flatP_append, flatP_one]
  exact ⟨by simp [flatP_length, cells5]; omega, .inr ⟨g, o, c, rfl, h, h2, rfl⟩⟩
theorem cells_on (q : PT) (b : Nat) (n : Int) (v : Value) : ((cells5 q).set 1 v).set 4 (str (textE (ET.on b n q.1))) = cells5 (ET.on b n q.1, v) := by
  simp only [cells5, List.set_cons_succ, List.set_cons_zero, code0]
  rw [show code1 (ET.on b n q.1) = code1 q.1 by rw [code1], show of1 (ET.on b n q.1) = of1 q.1 by rw [of1]]
theorem cells_of (q : PT) (b : Nat) (n : Int) : (((cells5 q).set 2 (.int .i64 n)).set 3 (.bool true)).set 4 (str (textE (ET.of b n q.1))) = cells5 (ET.of b n q.1, q.2) := by
  simp only [cells5, List.set_cons_succ, List.set_cons_zero, code0]
  rw [show code1 (ET.of b n q.1) = code1 q.1 by rw [code1], show of1 (ET.of b n q.1) = some (b, n) by rw [of1]]
  rfl
theorem span_last (Q : List PT) (q p : PT) (h : (textE p.1).length ≤ (textE q.1).length + 10) : span (Q ++ [p]) ≤ span (Q ++ [q]) + 10 := by
  rw [span_append, span_append, span_one, span_one]; omega
theorem tells_last {T T2 : List Atom} {Q : List PT} {q p : PT} (h : ∀ x ∈ Q ++ [q], Tells T x) (hT : ∀ x ∈ T, x ∈ T2) (hp : Tells T2 p) : ∀ x ∈ Q ++ [p], Tells T2 x := fun x hx => by
  rcases List.mem_append.1 hx with hx | hx
  · exact (h x (List.mem_append_left _ hx)).mono hT
  · rw [List.mem_singleton.1 hx]; exact hp
theorem oval_one (e : Option ET) : (oval e).oneCell' = true := by
  cases e with
  | none => rfl
  | some e => exact val_one e
section
variable {W w : World} {F L A : List Atom} {v sv : Value} {o : Oper} {a : Act} {K : Act → World → Prop} {Q : Exit → Act → World → Prop}
theorem wp_append_oval {x y : Operand} (ho : o.op = .call { callee := .builtin .append, args := #[x, y], argTypes := #[24, 24] }) (l m : List (Option ET)) (hv : a.eval x = v) (hsv : a.eval y = sv)
    (hr : RowA 27 1 v l.length (l.map oval) A) (hs : Sat W w (A ++ F)) (hsrc : Reads w sv m.length (m.map oval)) (hb : l.length + m.length < 1000000)
    (h : ∀ v' w' A', RowA 27 1 v' (l ++ m).length ((l ++ m).map oval) A' → Sat W w' (A' ++ F) → K (a.put o.dst v') w') : o.wp Tryd.prog a w K Q := by
  obtain ⟨i0, hi, hz0, hz1, hz2⟩ := info_parts infoErr
  obtain ⟨v2, w2, R2, hra, hrow, hs2⟩ := append_sl (P := Tryd.prog) o.type Tryd.underlying24 hi hz0 hz1 hz2 rfl (by decide) hr hs hsrc (by simp) (fun u hu => by obtain ⟨p, _, rfl⟩ := List.mem_map.1 hu; exact oval_one p) (by unfold maxLen; omega) (by omega)
  refine wp_append ho (by rw [hv, hsv]; exact hra) (h _ _ _ ?_ hs2)
  rw [List.length_append, List.map_append]
  exact hrow
end
/-- One tree that says what some say. -/
structure Sums (T : List Atom) (es : List ET) (e : ET) : Prop where
  inT : In T e
  code : code1 e = codeL es
  of : of1 e = ofL es
  nodes : nodesE e = nodesL es
  text : textE e = Lib.join (textL es) tSemi
  digs : Digs e
  pos : Pos e
theorem join_grown (W w : World) (L T : List Atom) (v : Value) (P : List PT) (hne : P ≠ []) (hs : Sat W w L) (hrow : InRow L v ((none :: (P.map fun p : PT => some p.1) ++ [none]).map oval)) (ht : ∀ p ∈ P, Tells T p) (hl : P.length < 100000) :
    Calls Tryd.prog 12 #[v] w fun r w' => ∃ e' N, r = .returned (val e') ∧ Sums (N ++ T) (P.map (·.1)) e' ∧ Sat W w' (N ++ L) := by
  refine (join_any W w L v _ hs hrow).mono ?_
  intro r w' h
  have hf : (none :: (P.map fun p : PT => some p.1) ++ [none] : List (Option ET)).filterMap id = P.map (·.1) := by
    rw [List.cons_append, List.filterMap_cons_none rfl, List.filterMap_append]
    rw [List.filterMap_map]
    simp
  rw [hf] at h
  rcases P with _ | ⟨p, _ | ⟨q, P⟩⟩
  · exact absurd rfl hne
  · obtain ⟨h1, h2⟩ := h
    have hp := ht p (by simp)
    exact ⟨p.1, [], h1, ⟨hp.inT, by simp only [List.map_cons, List.map_nil, codeL]; cases code1 p.1 <;> rfl, by simp only [List.map_cons, List.map_nil, ofL]; cases of1 p.1 <;> rfl, by simp [nodesL], by simp [textL, Lib.join_one], hp.digs, hp.pos⟩, h2⟩
  · obtain ⟨b, v', R, h1, h2, h3⟩ := h
    have hin : InL T ((p :: q :: P).map (·.1)) := InL.of fun e he => by obtain ⟨x, hx, rfl⟩ := List.mem_map.1 he; exact (ht x hx).inT
    refine ⟨_, cellsA b #[v'] 60 :: R, h1, ⟨In.all' (List.mem_append_left _ (List.mem_cons_self ..)) ⟨by simp at hl ⊢; omega, R, by simpa using h2, fun x hx => List.mem_append_left _ (List.mem_cons_of_mem _ hx)⟩ (hin.mono fun x hx => List.mem_append_right _ hx), by rw [code1]; rfl, by rw [of1]; rfl, by rw [nodesE]; rfl, by rw [textE]; rfl, ?_, ?_⟩, h3⟩
    · unfold Digs
      exact DigsL.of fun e he => by obtain ⟨x, hx, rfl⟩ := List.mem_map.1 (show e ∈ (p :: q :: P).map (·.1) from he); exact (ht x hx).digs
    · unfold Pos
      exact PosL.of fun e he => by obtain ⟨x, hx, rfl⟩ := List.mem_map.1 (show e ∈ (p :: q :: P).map (·.1) from he); exact (ht x hx).pos
/-- A row's beginning, as a row that has no more room. -/
theorem row_cut {W w : World} {e : TypeId} {g o len : Nat} {xs ys : List Value} {G : List Atom} (hs : Sat W w ([(g, rowP e o len (xs ++ ys))] ++ G)) (len' : Nat) (h1 : len' ≤ len) (h2 : xs.length ≤ len') : Sat W w ([(g, rowP e o len' xs)] ++ G) := by
  obtain ⟨ob, ho, cur, rfl, q1, q2, q3⟩ := hs.head
  refine hs.turn (Inert.refl w) (fun _ _ _ => rfl) ⟨_, ho, cur, rfl, by omega, h2, ?_⟩
  have h3 := congrArg (List.take xs.length) q3
  rw [List.take_take, List.take_left, Nat.min_eq_left (by rw [List.length_append]; omega)] at h3
  exact h3
def sCells (es : List ET) (v : Value) : Array Value := #[.int .i64 ((codeL es).getD 0), v, .int .i64 (stripeO (ofL es)), .bool (ofL es).isSome, str (Lib.join (textL es) tSemi)]
theorem sCells_one (p : PT) : (sCells [p.1] p.2).toList = cells5 p := by
  unfold sCells cells5 code0
  rw [show codeL [p.1] = code1 p.1 by simp only [codeL]; cases code1 p.1 <;> rfl, show ofL [p.1] = of1 p.1 by simp only [ofL]; cases of1 p.1 <;> rfl, show textL [p.1] = [textE p.1] by simp [textL], Lib.join_one]
theorem reads_nil1 (w : World) (T : TypeId) : Reads (w.alloc (.cells #[.nilIface] T)) (.slice (some ⟨w.heap.size, 0, none⟩) 1 1) [(none : Option ET)].length ([(none : Option ET)].map oval) := by
  refine .inr ⟨_, _, rfl, fun j u hu => ?_⟩
  rw [add_row, cell_at (heap_alloc_new w _) (0 + j)]
  simpa [oval] using hu
theorem sCells_one' (p : PT) : sCells [p.1] p.2 = #[.int .i64 (code0 p.1), p.2, .int .i64 (stripeO (of1 p.1)), .bool (of1 p.1).isSome, str (textE p.1)] := by
  apply Array.toList_inj.1
  rw [sCells_one]
  rfl
theorem sCells_snoc (E : List ET) (x : ET) (v : Value) (hne : E ≠ []) (hp : PosL E) : sCells (E ++ [x]) v = #[.int .i64 (if (codeL E).getD 0 = 0 then code0 x else (codeL E).getD 0), v, .int .i64 (if (ofL E).isSome then stripeO (ofL E) else stripeO (of1 x)), .bool ((ofL E).isSome || (of1 x).isSome), str (Lib.join (textL E) tSemi ++ tSemi ++ textE x)] := by
  unfold sCells
  rw [codeL_snoc, code_or (codeL_ne hp), ofL_snoc, stripe_or, some_or, textL_snoc, join_snoc _ _ _ (by rw [textL_map]; simpa using hne)]
  rfl
theorem span_take (A : List PT) (x : PT) (M : List PT) (k : Nat) : span (x :: M.take k) ≤ span (A ++ x :: M) := by
  have e1 : span (A ++ x :: M) = span A + (span [x] + (span (M.take k) + span (M.drop k))) := by
    rw [span_append, show x :: M = [x] ++ (M.take k ++ M.drop k) by simp, span_append, span_append]
  have e2 : span (x :: M.take k) = span [x] + span (M.take k) := by rw [show x :: M.take k = [x] ++ M.take k by simp, span_append]
  omega
theorem mem_take {A M : List PT} {x p : PT} {k : Nat} (h : p ∈ x :: M.take k) : p ∈ A ++ x :: M := by
  rcases List.mem_cons.1 h with rfl | h
  · simp
  · exact List.mem_append_right _ (List.mem_cons_of_mem _ (List.mem_of_mem_take h))
theorem reads_at {T L : List Atom} {W w : World} {v : Value} {ns : List Int} (h : NodesAt T v ns) (hs : Sat W w L) (hT : ∀ x ∈ T, x ∈ L) : Reads w v ns.length (ints ns) := by
  obtain ⟨R, h1, h2⟩ := h
  exact h1.reads (Sat.pick hs (Ca.RowA.short h1) (fun x hx => hT x (h2 x hx)))
end Go.Proofs.YtoknokbbggnmjaaDoor.Ca
