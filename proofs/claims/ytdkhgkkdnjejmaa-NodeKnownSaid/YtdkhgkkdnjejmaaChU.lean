/-
  chunk.Get.
-/
import Derived.Test.YtdkhgkkdnjejmaaChT
namespace Go.Proofs.Ytdkhgkkdnjejmaa.Ch
set_option linter.unusedSimpArgs false
open Go Go.RowKit Go.Sl Go.BigFrame
set_option linter.unusedVariables false

theorem infoPc : (Try.prog.info? 45).map (fun i => (i.zero, i.size, i.bytes)) = some (some (.agg #[.int .i64 0, .int .i64 0, .int .i64 0, .slice none 0 0]), 4, 48) := by kernel_rfl

/-- The piece of a stripe in block k, if it is one. -/
noncomputable def getAt (q : Pt) (s : Int) (k : Nat) : Option Pc :=
  match q.now[k]? with
  | some b => match readB b with
    | some p => if p.stripe = s ∧ placeI s p.gen = k then some p else none
    | none => none
  | none => none
noncomputable def srt : List Pc → List Pc
  | [x, y] => if x.gen < y.gen then [y, x] else [x, y]
  | l => l
noncomputable def getN (q : Pt) (s : Int) (k : Nat) : List Pc := ((List.range k).map fun (j : Nat) => getAt q s (placeN s (j : Int))).filterMap id
/-- chunk.Get. -/
noncomputable def getL (q : Pt) (s : Int) : List Pc := srt (getN q s 2)
theorem getN_succ (q : Pt) (s : Int) (k : Nat) : getN q s (k + 1) = getN q s k ++ (getAt q s (placeN s k)).toList := by
  unfold getN
  rw [List.range_succ, List.map_append, List.filterMap_append]
  cases h : getAt q s (placeN s k) <;> simp [h]
theorem sort2_fst (xs : List (Pc × Value)) : (sort2 xs).map Prod.fst = srt (xs.map Prod.fst) := by
  rcases xs with _ | ⟨x, _ | ⟨y, _ | ⟨z, xs⟩⟩⟩
  · rfl
  · rfl
  · simp only [sort2, srt, List.map_cons, List.map_nil]
    split <;> rfl
  · rfl
theorem sort2_mem (xs : List (Pc × Value)) : ∀ x ∈ sort2 xs, x ∈ xs := by
  rcases xs with _ | ⟨x, _ | ⟨y, _ | ⟨z, xs⟩⟩⟩
  · exact fun x h => h
  · exact fun x h => h
  · intro z hz
    simp only [sort2] at hz
    split at hz
    · simp at hz ⊢
      exact hz.symm
    · simpa using hz
  · exact fun x h => h
theorem readB_right {b : List UInt8} {p : Pc} (h : readB b = some p) : rightP p := by
  unfold readB at h
  split at h
  · split at h
    · rename_i h2
      cases h
      exact h2
    · cases h
  · cases h

theorem get_none (dv : Value) (s : Int) (w : World) (h : dv = .pointer none ∨ (∃ b, dv = .pointer (some ⟨b, 0, none⟩)) ∧ (s < 0 ∨ 40 ≤ s)) :
    Calls Try.prog 33 #[dv, .int .i64 s] w fun e w' => e = .returned (.slice none 0 0) ∧ w = w' := by
  rcases h with rfl | ⟨⟨b, rfl⟩, h | h⟩
  · go_enter Try.func33, Try.ntmps33
    go_wp2_with fail
    go_ret
    exact ⟨rfl, rfl⟩
  · go_enter Try.func33, Try.ntmps33
    go_wp2_with fail
    go_ret
    exact ⟨rfl, rfl⟩
  · have h0 : ¬ s < 0 := by omega
    go_enter Try.func33, Try.ntmps33
    go_wp2_with fail
    go_ret
    exact ⟨rfl, rfl⟩

/-- The pieces' bytes are blocks among B. -/
def PcBl (B : List Atom) (xs : List (Pc × Value)) : Prop := ∀ x ∈ xs, BlkIn B x.2 x.1.data ∧ rightP x.1

set_option maxRecDepth 100000 in
set_option maxHeartbeats 4000000 in
theorem get_any (b : Nat) (q : Pt) (A : List Atom) (s : Int) (W w : World) (L : List Atom) (hq : PtA b q A) (hs : Sat W w (A ++ L)) (h0 : 0 ≤ s) (h1 : s < 40) (h80 : 80 ≤ q.now.length) (hl : ∀ l ∈ q.now, l.length < 1000000) :
    Calls Try.prog 33 #[.pointer (some ⟨b, 0, none⟩), .int .i64 s] w fun e w' => ∃ v xs R B, e = .returned v ∧ RowA 45 4 v xs.length (pcsC xs) R ∧ xs.map Prod.fst = getL q s ∧ PcBl B xs ∧ Sat W w' (R ++ (B ++ (A ++ L))) := by
  have n0 : ¬ s < 0 := by omega
  have n1 : ¬ 40 ≤ s := by omega
  have hp : ∀ j : Nat, j < 2 → placeI s j = (placeN s j : Nat) ∧ placeN s j < 80 := fun j hj => by
    have := placeI_bounds s j h0 h1
    unfold placeN
    omega
  have hp0 := (hp 0 (by omega)).1
  have hp1 := (hp 1 (by omega)).1
  have HP := Lib.hid hp
  have HQ := Lib.hid hq
  have HLQ := Lib.hid hl
  have HP0 := Lib.hid hp0
  have HP1 := Lib.hid hp1
  clear hp hq hl hp0 hp1
  obtain ⟨Z, hZ⟩ : ∃ Z, Z = getL q s := ⟨_, rfl⟩
  rw [← hZ]
  have HZ := Lib.hid hZ
  clear hZ
  go_enter Try.func33, Try.ntmps33
  go_wp2_with fail
  refine (place_any s 0 w h0 (by omega)).mono ?_; rintro r w3 ⟨rfl, rfl⟩
  rw [show placeI s 0 = _ from HP0.out]
  go_wp2_with fail
  refine (place_any s 1 w h0 (by omega)).mono ?_; rintro r w3 ⟨rfl, rfl⟩
  rw [show placeI s 1 = _ from HP1.out]
  have hs1 := hs.newCells #[.int .i64 (placeN s (0 : Nat)), .int .i64 (placeN s (1 : Nat))] 3
  clear hs
  obtain ⟨zk, hzk⟩ : ∃ zk, zk = w.heap.size := ⟨_, rfl⟩
  rw [← hzk] at hs1
  go_wp2_with fail
  rw [← hzk]
  clear hzk
  go_loopw [28, 5] (fun kv ov wr => ∃ (k : Nat) (xs : List (Pc × Value)) (R B : List Atom), kv = .int .i64 k ∧ k ≤ 2 ∧ xs.length ≤ k ∧ RowA 45 4 ov xs.length (pcsC xs) R ∧ xs.map Prod.fst = getN q s k ∧ PcBl B xs ∧ Sat W wr (R ++ (B ++ (cellsA zk #[.int .i64 (placeN s (0 : Nat)), .int .i64 (placeN s (1 : Nat))] 3 :: (A ++ L))))) (fun kv _ _ => (2 - (intOf kv).toNat))
  case atStart => exact ⟨0, [], [], [], rfl, by omega, by simp, RowA.nil _ _, rfl, (fun x hx => by simp at hx), hs1⟩
  case round =>
    clear hs1
    obtain ⟨k, xs, R, B, rfl, hk, hxl, hr, hxs, hxb, hs⟩ := hrel
    have k0 : (0 : Int) ≤ k := by omega
    have HXS := Lib.hid hxs
    have HXB := Lib.hid hxb
    clear hxs hxb
    obtain ⟨ao, co, rfl⟩ := Ch.RowA.slice hr
    by_cases hkn : k < 2
    · have k1 : (k : Int) < 2 := by omega
      obtain ⟨K, hK⟩ : ∃ K, K = placeN s (k : Nat) := ⟨_, rfl⟩
      have hKp := HP.out k hkn
      rw [← hK] at hKp
      have c0 : wr.cell? ⟨zk, k, none⟩ = some (.int .i64 K) := by
        rw [hs.cell (b := zk) (List.mem_append_right _ (List.mem_append_right _ m0)) k, hK]
        rcases (by omega : k = 0 ∨ k = 1) with rfl | rfl <;> rfl
      obtain ⟨l, hl⟩ : ∃ l, q.now[K]? = some l := ⟨_, List.getElem?_eq_getElem (by omega)⟩
      have hll := HLQ.out l (List.mem_of_getElem? hl)
      have hga : getAt q s K = match readB l with | some p => if p.stripe = s ∧ placeI s p.gen = K then some p else none | none => none := by
        unfold getAt
        rw [hl]
      have hgn : getN q s (k + 1) = getN q s k ++ (getAt q s K).toList := by rw [getN_succ, hK]
      have hrd := read_in b q A K l W wr (R ++ (B ++ (cellsA zk #[.int .i64 (placeN s (0 : Nat)), .int .i64 (placeN s (1 : Nat))] 3 :: L))) HQ.out (hs.use (by intro x; simp only [cnt_append, cnt_cons, cnt_nil]; omega)) hl hll
      have HRD := Lib.hid hrd
      have HGA := Lib.hid hga
      have HGN := Lib.hid hgn
      have HKP := Lib.hid hKp
      clear hrd hga hgn hl hK hKp hs
      go_wp2_with fail
      refine HRD.out.mono ?_; rintro r w4 ⟨v4, R4, rfl, hr4, hs4⟩
      have hcap4 : ∀ a n c, v4 = .slice a n c → n ≤ c := fun a n c h => by
        rcases hr4.2 with ⟨h1, h2, _⟩ | ⟨g, off, cap, h1, h2, _⟩
        · rw [h1] at h; cases h; exact Nat.le_refl _
        · rw [h1] at h; cases h; exact h2
      have hrb := read_any W w4 _ v4 l hs4 (fun y hy => hr4.reads hy) hll hcap4
      obtain ⟨a4, c4, rfl⟩ := Ch.RowA.slice hr4
      have HRB := Lib.hid hrb
      clear hrb hcap4
      go_wp2_with fail
      refine HRB.out.mono ?_; rintro r w5 ⟨bv, R5, rfl, hr5, hs5⟩
      obtain ⟨a5, c5, rfl⟩ := Ch.RowA.slice hr5
      have hga := HGA.out
      have hgn := HGN.out
      clear HRD HRB HGA HGN
      have hs6 : Sat W w5 (R ++ (B ++ (cellsA zk #[.int .i64 (placeN s (0 : Nat)), .int .i64 (placeN s (1 : Nat))] 3 :: (A ++ L)))) := hs5.use (by intro x; simp only [cnt_append, cnt_cons, cnt_nil]; omega)
      rcases hb : readB l with _ | p
      · have e1 : readP l = pc0 := by unfold readP; rw [hb]; rfl
        rw [hb] at hga
        simp only at hga
        rw [hga] at hgn
        have HGN := Lib.hid hgn
        rw [e1]
        unfold pcV pc0
        simp only [Option.isSome_none]
        clear hb e1 hga hgn hr5 hs5
        go_wp2_with fail
        refine ⟨⟨k + 1, xs, R, B, by simp, by omega, by omega, hr, ?_, HXB.out, hs6.alloc _⟩, ?_⟩
        · rw [HGN.out, Option.toList_none, List.append_nil]
          exact HXS.out
        · simp [intOf]
          omega
      · have e1 : readP l = p := by unfold readP; rw [hb]; rfl
        have hright := readB_right hb
        rw [hb] at hga
        simp only at hga
        rw [e1] at hr5 ⊢
        obtain ⟨ps, pg, pi, pd⟩ := p
        unfold pcV
        simp only [Option.isSome_some] at hr5 hga ⊢
        have HR := Lib.hid hright
        clear hb e1 hright
        by_cases hps : ps = s
        · subst hps
          by_cases hpl : placeI ps pg = K
          · rw [if_pos ⟨rfl, hpl⟩] at hga
            rw [hga] at hgn
            have HGN := Lib.hid hgn
            have HPL := Lib.hid hpl
            clear hga hgn hpl
            have hs7 := hs5.newCells #[.int .i64 ps, .int .i64 pg, .int .i64 pi, .slice a5 pd.length c5] 45
            have hs8 := hs7.newCells #[.int .i64 ps, .int .i64 pg, .int .i64 pi, .slice a5 pd.length c5] 45
            have hsz : (w5.alloc (.cells #[.int .i64 ps, .int .i64 pg, .int .i64 pi, .slice a5 pd.length c5] 45)).heap.size = w5.heap.size + 1 := by simp
            have hsrc := reads_cells hs8 m0 1 1 (pcCells ⟨ps, pg, pi, pd⟩ (.slice a5 pd.length c5)) rfl
            rw [hsz] at hs8 hsrc
            have hs9 := Sat.use (M := R ++ (R5 ++ (B ++ (cellsA zk #[.int .i64 (placeN ps (0 : Nat)), .int .i64 (placeN ps (1 : Nat))] 3 :: (A ++ L))))) hs8 (by intro x; simp only [cnt_append, cnt_cons, cnt_nil]; omega)
            clear hsz hs5 hs6 hs7 hs8
            go_wp2_with fail
            refine (place_any ps pg _ h0 (by omega)).mono ?_; rintro r w6 ⟨rfl, rfl⟩
            rw [HPL.out]
            go_wp2_with (at_builtin; go_loud (refine wpList_plain rfl (fun K hK => ?_); refine wp_append_g Try.underlying53 infoPc rfl (by decide) (by decide) rfl rfl rfl hr hs9 hsrc rfl (by intro u hu; simp only [pcCells, List.mem_cons, List.not_mem_nil, or_false] at hu; rcases hu with rfl | rfl | rfl | rfl <;> rfl) (by omega) (fun v2 w7 R2 hr2 hs10 => ?_); refine hK _ _ ?_; simp only [Act.put, List.setIfInBounds_toArray, List.set_cons_zero, List.set_cons_succ]; clear hK))
            have hp32 : 0 < pd.length := by
              have := HR.out.2.2.2.2.2.2
              simp only at this
              omega
            have hbi := (BlkIn.of_row hr5 hp32).mono (B' := R5 ++ B) (fun x hx => List.mem_append_left _ hx)
            refine ⟨⟨k + 1, xs ++ [(⟨ps, pg, pi, pd⟩, .slice a5 pd.length c5)], R2, R5 ++ B, by simp, by omega, by simp; omega, ?_, ?_, ?_, hs10.use (by intro x; simp only [cnt_append, cnt_cons, cnt_nil]; omega)⟩, ?_⟩
            · rw [pcsC_append]
              simp only [List.length_append, List.length_cons, List.length_nil]
              exact hr2
            · rw [HGN.out, List.map_append, HXS.out]
              rfl
            · intro x hx
              rcases List.mem_append.1 hx with h | h
              · obtain ⟨h1, h2⟩ := HXB.out x h
                exact ⟨h1.mono (fun y hy => List.mem_append_right _ hy), h2⟩
              · rw [List.mem_singleton] at h
                rw [h]
                exact ⟨hbi, HR.out⟩
            · simp [intOf]
              omega
          · rw [if_neg (fun h => hpl h.2)] at hga
            rw [hga] at hgn
            have HGN := Lib.hid hgn
            have q0 : (placeI ps pg == (K : Int)) = false := by simpa using hpl
            clear hga hgn hr5 hs5 hpl
            go_wp2_with fail
            refine (place_any ps pg _ h0 (by omega)).mono ?_; rintro r w6 ⟨rfl, rfl⟩
            go_wp2_with fail
            refine ⟨⟨k + 1, xs, R, B, by simp, by omega, by omega, hr, ?_, HXB.out, hs6.alloc _⟩, ?_⟩
            · rw [HGN.out, Option.toList_none, List.append_nil]
              exact HXS.out
            · simp [intOf]
              omega
        · rw [if_neg (fun h => hps h.1)] at hga
          rw [hga] at hgn
          have HGN := Lib.hid hgn
          have q0 : (ps == s) = false := by simpa using hps
          clear hga hgn hr5 hs5 hps
          go_wp2_with fail
          refine ⟨⟨k + 1, xs, R, B, by simp, by omega, by omega, hr, ?_, HXB.out, hs6.alloc _⟩, ?_⟩
          · rw [HGN.out, Option.toList_none, List.append_nil]
            exact HXS.out
          · simp [intOf]
            omega
    · have e : k = 2 := by omega
      subst e
      have hgen : ∀ x ∈ xs, (0 ≤ x.1.gen ∧ x.1.gen ≤ 1099511627776) ∧ ∃ a n c, x.2 = .slice a n c := fun x hx => by
        obtain ⟨⟨g, off, cap, h1, _, _⟩, h2⟩ := HXB.out x hx
        exact ⟨⟨by have := h2.2.2.1; omega, h2.2.2.2.1⟩, _, _, _, h1⟩
      have hst := sort_any xs _ R W wr _ hxl hr hs hgen
      have HST := Lib.hid hst
      clear hst hgen hs hr
      go_wp2_with fail
      refine HST.out.mono ?_; rintro r w5 ⟨rfl, R5, hr5, hs5⟩
      go_wp2_with fail
      go_ret
      refine ⟨_, sort2 xs, R5, B, rfl, hr5, ?_, fun x hx => HXB.out x (sort2_mem xs x hx), hs5.use (by intro x; simp only [cnt_append, cnt_cons, cnt_nil]; omega)⟩
      rw [HZ.out, sort2_fst, HXS.out]
      rfl
end Go.Proofs.Ytdkhgkkdnjejmaa.Ch
