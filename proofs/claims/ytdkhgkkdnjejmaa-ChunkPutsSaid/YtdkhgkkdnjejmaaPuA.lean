/-
  The document's platter: what it says, in plain lists; a row of strings in memory.
-/
import Derived.Test.YtdkhgkkdnjejmaaLaC
import Derived.Test.YtdkhgkkdnjejmaaRcI
namespace Go.Proofs.Ytdkhgkkdnjejmaa.Ch
set_option linter.unusedSimpArgs false
open Go Go.RowKit Go.Sl Go.BigFrame
set_option linter.unusedVariables false

theorem quiet_cv {C : World → Prop} {o : Oper} {act : Act} {K : Act → Prop} {t1 t2 : TypeId} {x : Operand} {v u : Value} (hop : o.op = .convert t1 t2 x) (hv : act.eval x = v) (hc : ∀ w, C w → (convert t1 t2 v).run Try.prog w = .ok u w) (hk : K (act.put o.dst u)) : o.quiet Try.prog act C K := by
  refine ⟨u, fun w hC => ?_, hk⟩
  unfold Oper.quietAt
  have h1 := hc w hC
  simp [execOp, hop, hv, h1, Oper.quietUpon]
/-- A string of bytes. -/
def bsOf (l : List UInt8) : ByteArray := ⟨l.toArray⟩
def strs (ls : List (List UInt8)) : List Value := ls.map fun l => .string (bsOf l)
theorem strs_length (ls : List (List UInt8)) : (strs ls).length = ls.length := by simp [strs]
theorem strs_get {ls : List (List UInt8)} {k : Nat} {l : List UInt8} (h : ls[k]? = some l) : (strs ls)[k]? = some (.string (bsOf l)) := by rw [strs, List.getElem?_map, h]; rfl
theorem strs_set (ls : List (List UInt8)) (k : Nat) (l : List UInt8) : (strs ls).set k (.string (bsOf l)) = strs (ls.set k l) := by simp [strs, List.map_set]
theorem strs_append (ls ms : List (List UInt8)) : strs (ls ++ ms) = strs ls ++ strs ms := by simp [strs]
theorem strs_one (ls : List (List UInt8)) : ∀ u ∈ strs ls, u.oneCell' = true := fun u hu => by
  obtain ⟨l, _, rfl⟩ := List.mem_map.1 hu
  rfl

/-- The document's platter: what is flushed, what pends, how many writes. -/
structure Rt where
  done : List (List UInt8)
  pend : List (Nat × List UInt8)
  writes : Int
/-- What is read once the first k pending writes are counted. -/
def appTo (d : List (List UInt8)) (pend : List (Nat × List UInt8)) : Nat → List (List UInt8)
  | 0 => d
  | k + 1 => match pend[k]? with
    | some x => (appTo d pend k).set x.1 x.2
    | none => appTo d pend k
theorem appTo_length (d : List (List UInt8)) (pend : List (Nat × List UInt8)) : ∀ k, (appTo d pend k).length = d.length
  | 0 => rfl
  | k + 1 => by
    unfold appTo
    split
    · rw [List.length_set, appTo_length d pend k]
    · exact appTo_length d pend k
theorem appTo_snoc (d : List (List UInt8)) (pend : List (Nat × List UInt8)) (x : Nat × List UInt8) : ∀ k, k ≤ pend.length → appTo d (pend ++ [x]) k = appTo d pend k
  | 0, _ => rfl
  | k + 1, h => by
    unfold appTo
    rw [List.getElem?_append_left (by omega), appTo_snoc d pend x k (by omega)]
def Rt.now (r : Rt) : List (List UInt8) := appTo r.done r.pend r.pend.length
def Rt.wr (r : Rt) (k : Nat) (l : List UInt8) : Rt := ⟨r.done, r.pend ++ [(k, l)], r.writes + 1⟩
def Rt.fl (r : Rt) : Rt := ⟨r.now, [], r.writes⟩
def Rt.crash (r : Rt) (keep : List Int) : Rt := ⟨crashTo keep r.done r.pend r.pend.length, [], r.writes⟩
theorem Rt.now_length (r : Rt) : r.now.length = r.done.length := appTo_length _ _ _
theorem Rt.wr_now (r : Rt) (k : Nat) (l : List UInt8) : (r.wr k l).now = r.now.set k l := by
  unfold Rt.now Rt.wr
  simp only [List.length_append, List.length_cons, List.length_nil, Nat.zero_add]
  show appTo r.done (r.pend ++ [(k, l)]) (r.pend.length + 1) = _
  rw [appTo]
  rw [List.getElem?_append_right (Nat.le_refl _), Nat.sub_self]
  simp only [List.getElem?_cons_zero]
  rw [appTo_snoc _ _ _ _ (Nat.le_refl _)]
/-- The program's platter and the document's one say the same. -/
structure Alike (q : Pt) (r : Rt) : Prop where
  done : r.done = q.done
  now : r.now = q.now
  pend : r.pend = q.pend
  writes : r.writes = q.writes
theorem Alike.wr {q : Pt} {r : Rt} (h : Alike q r) (k : Nat) (l : List UInt8) : Alike (q.wr k l) (r.wr k l) :=
  ⟨h.done, by rw [Rt.wr_now, h.now]; rfl, by show r.pend ++ _ = q.pend ++ _; rw [h.pend], by show r.writes + 1 = q.writes + 1; rw [h.writes]⟩
theorem Alike.fl {q : Pt} {r : Rt} (h : Alike q r) : Alike q.fl r.fl := ⟨h.now, h.now, rfl, h.writes⟩
theorem Alike.crash {q : Pt} {r : Rt} (h : Alike q r) (keep : List Int) : Alike (q.crash keep) (r.crash keep) := by
  have e : crashTo keep r.done r.pend r.pend.length = crashTo keep q.done q.pend q.pend.length := by rw [h.done, h.pend]
  exact ⟨e, e, rfl, h.writes⟩
theorem Alike.start (n : Nat) : Alike ⟨List.replicate n zero160, List.replicate n zero160, [], 0⟩ ⟨List.replicate n zero160, [], 0⟩ := ⟨rfl, rfl, rfl, rfl⟩

def RtA (b : Nat) (r : Rt) (A : List Atom) : Prop :=
  ∃ vd vp Rd Rp, A = cellsA b #[vd, vp, .int .i64 r.writes] 126 :: (Rd ++ Rp) ∧ RowA 9 1 vd r.done.length (strs r.done) Rd ∧ RowA 129 2 vp r.pend.length (pendC (r.pend.map Prod.fst) (strs (r.pend.map Prod.snd))) Rp
end Go.Proofs.Ytdkhgkkdnjejmaa.Ch
