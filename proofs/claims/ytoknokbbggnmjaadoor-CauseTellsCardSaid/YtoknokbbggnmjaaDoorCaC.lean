/-
  Trees of package cause's errors; a row of errors cloned; what Unwrap hands back.
-/
import Derived.Test.YtoknokbbggnmjaaDoorCaB
import Derived.Lib.SliceRun
namespace Go.Proofs.YtoknokbbggnmjaaDoor.Ca
set_option linter.unusedSimpArgs false
open Go Go.RowKit Go.Sl Go.Extern.Stop Go.Stop Go.Extern
set_option linter.unusedVariables false

/-- A tree of errors: an Errno; errors.New's, its block and text; one on a node, of a stripe (its block); some joined (its block, its row). -/
inductive ET where
  | code (n : Int)
  | other (b : Nat) (s : ByteArray)
  | on (b : Nat) (n : Int) (e : ET)
  | of (b : Nat) (s : Int) (e : ET)
  | all (b : Nat) (v : Value) (es : List ET)

def val : ET → Value
  | .code n => .iface 29 (.int .i64 n)
  | .other b _ => .iface 89 (.pointer (some ⟨b, 0, none⟩))
  | .on b _ _ => .iface 46 (.pointer (some ⟨b, 0, none⟩))
  | .of b _ _ => .iface 47 (.pointer (some ⟨b, 0, none⟩))
  | .all b _ _ => .iface 58 (.pointer (some ⟨b, 0, none⟩))

mutual
def ET.size : ET → Nat
  | .code _ => 1
  | .other _ _ => 1
  | .on _ _ e => e.size + 1
  | .of _ _ e => e.size + 1
  | .all _ _ es => sizeL es + 1
def sizeL : List ET → Nat
  | [] => 0
  | e :: es => e.size + sizeL es
end
mutual
def code1 : ET → Option Int
  | .code n => some n
  | .other _ _ => none
  | .on _ _ e => code1 e
  | .of _ _ e => code1 e
  | .all _ _ es => codeL es
def codeL : List ET → Option Int
  | [] => none
  | e :: es => match code1 e with
    | some n => some n
    | none => codeL es
end
mutual
def nodesE : ET → List Int
  | .code _ => []
  | .other _ _ => []
  | .on _ n e => n :: nodesE e
  | .of _ _ e => nodesE e
  | .all _ _ es => nodesL es
def nodesL : List ET → List Int
  | [] => []
  | e :: es => nodesE e ++ nodesL es
end
/-- The tree's blocks are among T. -/
def InRow (T : List Atom) (v : Value) (xs : List Value) : Prop := xs.length < 1000000 ∧ ∃ R, RowA 27 1 v xs.length xs R ∧ ∀ x ∈ R, x ∈ T
mutual
def In (T : List Atom) : ET → Prop
  | .code n => True
  | .other b s => cellsA b #[.string s] 91 ∈ T
  | .on b n e => cellsA b #[.int .i64 n, val e] 52 ∈ T ∧ In T e
  | .of b s e => cellsA b #[.int .i64 s, val e] 54 ∈ T ∧ In T e
  | .all b v es => cellsA b #[v] 60 ∈ T ∧ InRow T v (es.map val) ∧ InL T es
def InL (T : List Atom) : List ET → Prop
  | [] => True
  | e :: es => In T e ∧ InL T es
end

theorem InL.mem {T : List Atom} : ∀ {es : List ET}, InL T es → ∀ e ∈ es, In T e
  | [], _, e, h => by cases h
  | x :: es, h, e, hm => by
    unfold InL at h
    rcases List.mem_cons.1 hm with rfl | hm
    · exact h.1
    · exact InL.mem h.2 e hm
theorem InL.of {T : List Atom} : ∀ {es : List ET}, (∀ e ∈ es, In T e) → InL T es
  | [], _ => by unfold InL; trivial
  | x :: es, h => by
    unfold InL
    exact ⟨h x (List.mem_cons_self ..), InL.of fun e he => h e (List.mem_cons_of_mem _ he)⟩
theorem InRow.mono {T U : List Atom} {v : Value} {xs : List Value} (hTU : ∀ x ∈ T, x ∈ U) (h : InRow T v xs) : InRow U v xs := by
  obtain ⟨h0, R, h1, h2⟩ := h
  exact ⟨h0, R, h1, fun x hx => hTU _ (h2 x hx)⟩
mutual
theorem In.mono {T U : List Atom} (hTU : ∀ x ∈ T, x ∈ U) : ∀ {e : ET}, In T e → In U e
  | .code n, h => by unfold In; trivial
  | .other b s, h => by unfold In at h ⊢; exact hTU _ h
  | .on b n e, h => by
    unfold In at h ⊢
    exact ⟨hTU _ h.1, In.mono hTU h.2⟩
  | .of b s e, h => by
    unfold In at h ⊢
    exact ⟨hTU _ h.1, In.mono hTU h.2⟩
  | .all b v es, h => by
    unfold In at h ⊢
    exact ⟨hTU _ h.1, h.2.1.mono hTU, InL.mono hTU h.2.2⟩
theorem InL.mono {T U : List Atom} (hTU : ∀ x ∈ T, x ∈ U) : ∀ {es : List ET}, InL T es → InL U es
  | [], h => by unfold InL; trivial
  | e :: es, h => by
    unfold InL at h ⊢
    exact ⟨In.mono hTU h.1, InL.mono hTU h.2⟩
end
theorem size_mem : ∀ {es : List ET} {e : ET}, e ∈ es → e.size ≤ sizeL es
  | [], e, h => by cases h
  | x :: es, e, h => by
    unfold sizeL
    rcases List.mem_cons.1 h with rfl | h
    · omega
    · have := size_mem h; omega
theorem size_pos (e : ET) : 0 < e.size := by cases e <;> unfold ET.size <;> omega

theorem infoErr : (Tryd.prog.info? 27).map (fun i => (i.zero, i.size, i.bytes)) = some (some .nilIface, 1, 16) := by kernel_rfl

theorem val_one (e : ET) : (val e).oneCell' = true := by cases e <;> rfl

theorem Sat.pick {W w : World} {L R : List Atom} (h : Sat W w L) (hl : R.length ≤ 1) (hR : ∀ x ∈ R, x ∈ L) : Sat W w (R ++ []) := by
  refine h.use fun y => ?_
  rw [List.append_nil]
  cases R with
  | nil => rw [cnt_nil]; omega
  | cons x R =>
    have : R = [] := List.eq_nil_of_length_eq_zero (by simpa using hl)
    subst this
    obtain ⟨K, L', e⟩ := List.append_of_mem (hR x (List.mem_cons_self ..))
    subst e
    simp only [cnt_append, cnt_cons, cnt_nil]
    omega
theorem RowA.short {e : TypeId} {size n : Nat} {v : Value} {xs : List Value} {R : List Atom} (h : RowA e size v n xs R) : R.length ≤ 1 := by
  rcases h.2 with ⟨_, _, rfl⟩ | ⟨_, _, _, _, _, _, rfl⟩ <;> simp
theorem InRow.reads {W w : World} {L : List Atom} {v : Value} {xs : List Value} (h : InRow L v xs) (hs : Sat W w L) : Reads w v xs.length xs := by
  obtain ⟨_, R, hr, hR⟩ := h
  exact hr.reads (Sat.pick hs (Ca.RowA.short hr) hR)

set_option maxRecDepth 100000 in
/-- slices.Clone of errors. -/
theorem clone_err (W w : World) (L : List Atom) (v : Value) (xs : List Value) (hs : Sat W w L) (hrd : Reads w v xs.length xs) (h1 : ∀ u ∈ xs, u.oneCell' = true) (hb : xs.length < 1000000) :
    Calls Tryd.prog 79 #[v] w fun e w' => ∃ v' R', e = .returned v' ∧ RowA 27 1 v' xs.length xs R' ∧ Sat W w' (R' ++ L) := by
  have q24 : ∀ (w : World) (a : Option Addr) (n c n' c' : Nat), (binOp .eql 24 (.slice a n c) (.slice none n' c')).run Tryd.prog w = .ok (.bool a.isNone) w := fun w a n c n' c' => Go.Lib.run_eql_slice_nil w _ _ a n c n' c' Tryd.underlying24
  have hs0 : Sat W (w.alloc (.cells #[] 27)) ([(w.heap.size, rowP 27 0 (0 * 1) [])] ++ L) := hs.new (.cells #[] 27) ⟨#[], rfl, by simp, by simp, by simp⟩
  have hr0 : RowA 27 1 (.slice (some ⟨w.heap.size, 0, none⟩) 0 0) 0 [] [(w.heap.size, rowP 27 0 (0 * 1) [])] := ⟨rfl, .inr ⟨_, _, _, rfl, Nat.le_refl _, Nat.zero_le _, rfl⟩⟩
  obtain ⟨i0, hi, hz0, hz1, hz2⟩ := info_parts infoErr
  have hrd2 : Reads (w.alloc (.cells #[] 27)) v xs.length xs := hrd.grown (Below.alloc (Below.refl _ w) (Nat.le_refl _) _)
  obtain ⟨v2, w2, R2, hra, hrow, hs2⟩ := append_sl (P := Tryd.prog) 24 Tryd.underlying24 hi hz0 hz1 hz2 rfl (by decide) hr0 hs0 hrd2 (by simp) h1 (by unfold maxLen; omega) (by omega)
  clear hr0 hs0 hrd2
  rcases hrd with ⟨rfl, hn, hx⟩ | ⟨a, c, rfl, _⟩
  · go_enter Tryd.func79, Tryd.ntmps79
    go_wp2
    go_ret
    refine ⟨_, [], rfl, ?_, hs⟩
    rw [hx]
    exact RowA.nil _ _
  · go_enter Tryd.func79, Tryd.ntmps79
    go_wp2_with (at_builtin; refine wpList_plain rfl (fun K hK => ?_); refine wp_append rfl hra ?_; refine hK _ _ ?_; simp only [Act.put, List.setIfInBounds_toArray, List.set_cons_zero, List.set_cons_succ])
    go_ret
    refine ⟨_, R2, rfl, ?_, hs2⟩
    simpa using hrow
end Go.Proofs.YtoknokbbggnmjaaDoor.Ca
