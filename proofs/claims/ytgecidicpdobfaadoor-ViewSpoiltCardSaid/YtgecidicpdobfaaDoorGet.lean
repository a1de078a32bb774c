/-
  A grant's bytes, the grant that stands at a place, all grants of some bytes: what the functions compute, in any store. No conditions but those named in each line.
-/
import Derived.Test.YtgecidicpdobfaaDoorPut
namespace Go.Proofs.YtgecidicpdobfaaDoor
open Go Go.Abs Go.Abs.F
set_option linter.unusedVariables false
section
variable {s t : St} {x y : S} {bs cs : List UInt8}

abbrev G2 (a b : Int) : T := .v (.agg [.int .i64 a, .int .i64 b])

theorem aNew_box2 (s : St) (a b : Int) : aNew s (nBox (G2 a b)) = some (Z (.ptr s.size 0), s.push (.cells true [.int .i64 a, .int .i64 b])) := rfl
theorem aNew_cells (s : St) (l : List S) : aNew s (nCells l) = some (Z (.ptr s.size 0), s.push (.cells true l)) := rfl
theorem store2 {i : Nat} {a b : Int} {p q : S} (h : s.get i = some (.cells true [p, q])) : aStore 2 (Z (.ptr i 0)) (G2 a b) s = some (tt, s.set i (.cells true [.int .i64 a, .int .i64 b])) := by
  simp [aStore, h, V.cells, setRange]
theorem load2 {i : Nat} {o : Bool} {a b : Int} {g : Mem} (h : g i = some (.cells o [.int .i64 a, .int .i64 b])) : aLoadN 2 (Z (.ptr i 0)) g = some (G2 a b) := by
  simp [aLoadN, h]
theorem agg2 (a b : Int) : asAggT (aFill [.int .i64 0, .int .i64 0] [(0, 1, I .i64 a), (1, 1, I .i64 b)]) = some (G2 a b) := by
  simp [asAggT, aFill, V.cells, setRange]
theorem agg0 : asAggT (aFill [.int .i64 0, .int .i64 0] []) = some (G2 0 0) := rfl

theorem four_len (n : Nat) : (four n).length = 4 := rfl

theorem put_run (d : Nat) (wf : s.wf) {v n : Nat} (h1 : 1 ≤ v) (h2 : v ≤ 1073741824) (h3 : n < 2) : ∃ y t, R (d + 3) 13 [G2 v n] s = some (.tup [.s y, .s (.int .i64 0)], t) ∧ Fresh s t y (putG v n) := by
  rw [f13_run]
  unfold f13
  obtain ⟨s1, hs1⟩ : ∃ s1, s1 = s.push (.cells true [.int .i64 v, .int .i64 n]) := ⟨_, rfl⟩
  have nb := aNew_box2 s v n
  rw [← hs1] at nb
  have g1 : Gr s s1 := by rw [hs1]; exact Gr.push wf _
  have hc1 : s1.get s.size = some (.cells true [.int .i64 v, .int .i64 n]) := by rw [hs1]; exact St.get_push_same _ _
  have l0 : aLoad1 (Z (.ptr s.size 0)) s1.get = some (I .i64 v) := aLoad1_of hc1 rfl
  have l1 : aLoad1 (Z (.ptr s.size (0 + 1))) s1.get = some (I .i64 n) := aLoad1_of hc1 rfl
  have z1 : s1.size = s.size + 1 := by rw [hs1]; simp
  have w1 := wrap64 v (by omega)
  have w2 := wrap64 n (by omega)
  obtain ⟨x2, s2, e2, F2⟩ := vput_run (d + 1) g1.1 v (by omega)
  have l1' : aLoad1 (Z (.ptr s.size (0 + 1))) s2.get = some (I .i64 n) := aLoad1_of ((F2.gr.2.2 _ (by omega)).trans hc1) rfl
  obtain ⟨x3, s3, e3, F3⟩ := vput_run (d + 1) F2.gr.1 n (by omega)
  have hv := vput_len v
  have hn := vput_len n
  have F2' : Fresh s s3 x2 (vput v) := ⟨(g1.trans F2.gr).trans F3.gr, F2.bs.keep fun c hc => F3.gr.2.2 c (F2.own c hc).2, fun c hc => ⟨by have := (F2.own c hc).1; omega, Nat.lt_of_lt_of_le (F2.own c hc).2 F3.gr.2.1⟩⟩
  obtain ⟨x4, s4, e4, F4, z4, _⟩ := F2'.app F3.bs.rd (by omega)
  have e5 := sum_run d F4.bs.rd (by simp; omega)
  obtain ⟨q, hq⟩ : ∃ q, q = sumB 1 (vput v ++ vput n) := ⟨_, rfl⟩
  rw [← hq] at e5
  obtain ⟨x6, s6, e6, F6, _⟩ := F4.lit (cs := four q) (by simp [four_len]; omega)
  have nw := lit4 s4 (q % 256) (q / 2 ^ 8 % 256) (q / 2 ^ 16 % 256) (q / 2 ^ 24 % 256)
  have hU : U (four q) = [.int .u8 (q % 256 : Nat), .int .u8 (q / 2 ^ 8 % 256 : Nat), .int .u8 (q / 2 ^ 16 % 256 : Nat), .int .u8 (q / 2 ^ 24 % 256 : Nat)] := by
    simp only [U, four, List.map_cons, List.map_nil, byte_nat]
  rw [hU, four_len] at e6
  have c0 := wrap8 q
  have c1 := wrap8 (q / 2 ^ 8)
  have c2 := wrap8 (q / 2 ^ 16)
  have c3 := wrap8 (q / 2 ^ 24)
  have r1 : aBin .shr (I .u32 q) (I .u64 8) = some (I .u32 ((q / 2 ^ 8 : Nat))) := shr_nat .u32 q 8 (by decide)
  have r2 : aBin .shr (I .u32 q) (I .u64 16) = some (I .u32 ((q / 2 ^ 16 : Nat))) := shr_nat .u32 q 16 (by decide)
  have r3 : aBin .shr (I .u32 q) (I .u64 24) = some (I .u32 ((q / 2 ^ 24 : Nat))) := shr_nat .u32 q 24 (by decide)
  have d0 : ((v : Int) < 1) = False := eq_false (by omega)
  have d1 : ((1073741824 : Int) < v) = False := eq_false (by omega)
  have d2 : ((n : Int) < 0) = False := eq_false (by omega)
  have d3 : ((2 : Int) ≤ n) = False := eq_false (by omega)
  refine ⟨x6, s6, ?_, ⟨F6.gr, ?_, F6.own⟩⟩
  · generalize ((q / 2 ^ 8 % 256 : Nat) : Int) = Q1 at nw e6 c1
    generalize ((q / 2 ^ 16 % 256 : Nat) : Int) = Q2 at nw e6 c2
    generalize ((q / 2 ^ 24 % 256 : Nat) : Int) = Q3 at nw e6 c3
    generalize ((q % 256 : Nat) : Int) = Q0 at nw e6 c0
    generalize ((q / 2 ^ 8 : Nat) : Int) = P1 at r1 c1
    generalize ((q / 2 ^ 16 : Nat) : Int) = P2 at r2 c2
    generalize ((q / 2 ^ 24 : Nat) : Int) = P3 at r3 c3
    generalize (q : Int) = Q at *
    rw [Nat.zero_add] at l1 l1'
    generalize R (d + 2) = r at e2 e3 e5 ⊢
    simp [nb, l0, l1, l1', d0, d1, d2, d3, w1, w2, e2, e3, e4, e5, c0, r1, r2, r3, c1, c2, c3, nw, e6, retT, allV]
  · have : putG v n = vput v ++ vput n ++ four q := by rw [hq]; rfl
    rw [this]
    exact F6.bs

theorem put_bad (d : Nat) (wf : s.wf) {v n : Int} (h : ¬ (1 ≤ v ∧ v ≤ 1073741824 ∧ 0 ≤ n ∧ n < 2)) : ∃ t, R (d + 1) 13 [G2 v n] s = some (.tup [.s .nils, .s (.int .i64 1)], t) ∧ Gr s t := by
  rw [f13_run]
  unfold f13
  obtain ⟨s1, hs1⟩ : ∃ s1, s1 = s.push (.cells true [.int .i64 v, .int .i64 n]) := ⟨_, rfl⟩
  have nb := aNew_box2 s v n
  rw [← hs1] at nb
  have g1 : Gr s s1 := by rw [hs1]; exact Gr.push wf _
  have hc1 : s1.get s.size = some (.cells true [.int .i64 v, .int .i64 n]) := by rw [hs1]; exact St.get_push_same _ _
  have l0 : aLoad1 (Z (.ptr s.size 0)) s1.get = some (I .i64 v) := aLoad1_of hc1 rfl
  have l1 : aLoad1 (Z (.ptr s.size 1)) s1.get = some (I .i64 n) := aLoad1_of hc1 rfl
  refine ⟨s1, ?_, g1⟩
  by_cases d0 : v < 1
  · simp [nb, l0, d0, retT, allV]
  · by_cases d1 : 1073741824 < v
    · simp [nb, l0, d0, d1, retT, allV]
    · by_cases d2 : n < 0
      · simp [nb, l0, l1, d0, d1, d2, retT, allV]
      · have d3 : 2 ≤ n := by omega
        simp [nb, l0, l1, d0, d1, d2, d3, retT, allV]

theorem aBounds_lh {len cap lo hi : Nat} (h : lo ≤ hi) (k : hi ≤ cap) : aBounds len cap (some (I .i64 lo)) (some (I .i64 hi)) none = some (lo, hi, cap) := by
  have e : aBnd (I .i64 hi) cap = some hi := by
    have h0 : (0 : Int) ≤ (hi : Int) := by omega
    have h1 : (hi : Int) ≤ (cap : Int) := by omega
    simp [aBnd, k]
  have e2 : aBnd (I .i64 lo) hi = some lo := by
    have h1 : (lo : Int) ≤ (hi : Int) := by omega
    simp [aBnd, h]
  delta aBounds
  dsimp only
  rw [e]
  dsimp only
  rw [e2]

/-- A piece of a slice. -/
theorem Rd.piece {l : List S} (h : Rd s x l) (oc : okCap x) {lo hi : Nat} (h1 : lo ≤ hi) (h2 : hi ≤ l.length) :
    ∃ y, aPieceSl 1 (Z x) (some (I .i64 lo)) (some (I .i64 hi)) none = some (Z y) ∧ Rd s y ((l.drop lo).take (hi - lo)) := by
  rcases h with ⟨rfl, rfl | ⟨c, rfl⟩ | ⟨c, o, cap, rfl⟩⟩ | ⟨c, o, cap, w, vs, rfl, a1, a2, a3⟩
  · obtain rfl : hi = 0 := by simpa using h2
    obtain rfl : lo = 0 := by omega
    exact ⟨.nils, rfl, .inl ⟨rfl, .inl rfl⟩⟩
  · obtain rfl : hi = 0 := by simpa using h2
    obtain rfl : lo = 0 := by omega
    exact ⟨.emp c 1, rfl, .inl ⟨rfl, .inr (.inl ⟨c, rfl⟩)⟩⟩
  · obtain rfl : hi = 0 := by simpa using h2
    obtain rfl : lo = 0 := by omega
    cases cap with
    | known k =>
      refine ⟨.sl c (if k = 0 then o else o + 0 * 1) 0 (.known (k - 0)), ?_, .inl ⟨rfl, .inr (.inr ⟨_, _, _, rfl⟩)⟩⟩
      unfold aPieceSl
      dsimp only
      rw [aBounds_lh (Nat.le_refl _) (Nat.zero_le _)]
    | grown g =>
      obtain rfl : g = 1 := oc
      exact ⟨.emp c 1, rfl, .inl ⟨rfl, .inr (.inl ⟨c, rfl⟩)⟩⟩
  · have hlen : ((l.drop lo).take (hi - lo)).length = hi - lo := by rw [List.length_take, List.length_drop]; omega
    have htk : ∀ o', o' = o + lo → (vs.drop o').take (hi - lo) = (l.drop lo).take (hi - lo) := fun o' e => by
      rw [e, ← a3, List.drop_take, List.take_take, List.drop_drop]
      congr 1
      omega
    cases cap with
    | known k =>
      have hk : l.length ≤ k := oc
      by_cases hkl : k = lo
      · have hz : (l.drop lo).take (hi - lo) = [] := List.eq_nil_of_length_eq_zero (by omega)
        refine ⟨.sl c o (hi - lo) (.known (k - lo)), ?_, .inl ⟨hz, .inr (.inr ⟨c, o, _, by rw [show hi - lo = 0 by omega]⟩)⟩⟩
        unfold aPieceSl
        dsimp only
        rw [aBounds_lh h1 (by omega)]
        dsimp only
        rw [if_pos hkl]
      · refine ⟨.sl c (o + lo * 1) (hi - lo) (.known (k - lo)), ?_, .inr ⟨c, o + lo, .known (k - lo), w, vs, by rw [hlen, Nat.mul_one], a1, by rw [hlen]; omega, by rw [hlen]; exact htk _ rfl⟩⟩
        unfold aPieceSl
        dsimp only
        rw [aBounds_lh h1 (by omega)]
        dsimp only
        rw [if_neg hkl]
    | grown g =>
      obtain rfl : g = 1 := oc
      by_cases hl : lo < l.length
      · refine ⟨.sl c (o + lo * 1) (hi - lo) (.grown 1), ?_, .inr ⟨c, o + lo, .grown 1, w, vs, by rw [hlen, Nat.mul_one], a1, by rw [hlen]; omega, by rw [hlen]; exact htk _ rfl⟩⟩
        unfold aPieceSl
        dsimp only
        rw [if_pos rfl, aBounds_lh h1 h2]
        dsimp only
        rw [if_pos hl]
      · have hz : (l.drop lo).take (hi - lo) = [] := List.eq_nil_of_length_eq_zero (by omega)
        refine ⟨.emp c 1, ?_, .inl ⟨hz, .inr (.inl ⟨c, rfl⟩)⟩⟩
        unfold aPieceSl
        dsimp only
        rw [if_pos rfl, aBounds_lh h1 h2]
        dsimp only
        rw [if_neg hl]

/-- The grant at a place. -/
theorem one_run (d : Nat) (wf : s.wf) (h : Rd s x (U bs)) (oc : okCap x) (hx : ∀ c, own x = some c → c < s.size) (hl : bs.length ≤ 400) {at_ : Nat} (ha : at_ ≤ 1000) :
    ∃ g1 g2 to b t, R (d + 4) 25 [Z x, I .i64 at_] s = some (.tup [.agg [.int .i64 g1, .int .i64 g2], .s (.int .i64 to), .s (.bool b)], t) ∧ Gr s t ∧
      ((oneP bs at_ = none ∧ b = false) ∨ ∃ v n e : Nat, oneP bs at_ = some (v, n, e) ∧ b = true ∧ g1 = v ∧ g2 = n ∧ to = e) := by
  rw [f25_run]
  unfold f25
  obtain ⟨s1, hs1⟩ : ∃ s1, s1 = s.push (.cells true [.int .i64 0, .int .i64 0]) := ⟨_, rfl⟩
  have nc := aNew_cells s [.int .i64 0, .int .i64 0]
  rw [← hs1] at nc
  have g1 : Gr s s1 := by rw [hs1]; exact Gr.push wf _
  have z1 : s1.size = s.size + 1 := by rw [hs1]; simp
  have hc1 : s1.get s.size = some (.cells true [.int .i64 0, .int .i64 0]) := by rw [hs1]; exact St.get_push_same _ _
  have h1 : Rd s1 x (U bs) := h.keep fun c hc => g1.2.2 c (hx c hc)
  have e1 := vget_run (d + 2) h1 (by omega) (at_ := at_) (by omega)
  have hll := h.len
  rw [U_len] at hll
  -- what is answered where there is none
  have bad : ∃ t, aStore 2 (Z (.ptr s.size 0)) (G2 0 0) s1 = some (tt, t) ∧ aLoadN 2 (Z (.ptr s.size 0)) t.get = some (G2 0 0) ∧ Gr s t := by
    refine ⟨_, store2 hc1, load2 (St.get_set_same _ _ _), St.wf_set g1.1 (by omega) _, by simp; omega, fun b hb => ?_⟩
    rw [St.get_set_ne _ _ (by omega)]
    exact g1.2.2 b hb
  obtain ⟨tb, eb1, eb2, gb⟩ := bad
  cases hv : vget bs at_ with
  | none =>
    rw [hv] at e1
    have hP : oneP bs at_ = none := by unfold oneP; rw [hv]
    refine ⟨0, 0, at_, false, tb, ?_, gb, .inl ⟨hP, rfl⟩⟩
    obtain ⟨q, hq, hqn⟩ : ∃ q : Int, q = (if at_ ≤ bs.length then 2 else 1) ∧ (q = 0) = False := ⟨_, rfl, by split <;> simp⟩
    unfold vres at e1
    rw [← hq] at e1
    generalize R (d + 3) = r at e1 ⊢
    simp [nc, e1, aExtract, hqn, agg0, eb1, eb2, rC, rT, retT, allV]
  | some p =>
    obtain ⟨v, k⟩ := p
    have hk := vget_lt hv
    rw [hv] at e1
    have e2 := vget_run (d + 2) h1 (by omega) (at_ := k) (by omega)
    unfold vres at e1
    dsimp only at e1
    cases hn : vget bs k with
    | none =>
      rw [hn] at e2
      have hP : oneP bs at_ = none := by unfold oneP; rw [hv]; dsimp only; rw [hn]
      refine ⟨0, 0, at_, false, tb, ?_, gb, .inl ⟨hP, rfl⟩⟩
      obtain ⟨q, hq, hqn⟩ : ∃ q : Int, q = (if k ≤ bs.length then 2 else 1) ∧ (q = 0) = False := ⟨_, rfl, by split <;> simp⟩
      unfold vres at e2
      rw [← hq] at e2
      generalize R (d + 3) = r at e1 e2 ⊢
      simp [nc, e1, e2, aExtract, hqn, agg0, eb1, eb2, rC, rT, retT, allV]
    | some p =>
      obtain ⟨n, e⟩ := p
      have he := vget_lt hn
      rw [hn] at e2
      unfold vres at e2
      dsimp only at e2
      have wsub : IntKind.i64.wrap ((bs.length : Int) - e) = ((bs.length - e : Nat) : Int) := by rw [wrap_in _ (by omega) (by omega)]; omega
      by_cases c1 : bs.length < e + 4
      · have hP : oneP bs at_ = none := by unfold oneP; rw [hv]; dsimp only; rw [hn]; dsimp only; rw [if_pos (.inl c1)]
        refine ⟨0, 0, at_, false, tb, ?_, gb, .inl ⟨hP, rfl⟩⟩
        have d1 : (((bs.length - e : Nat) : Int) < 4) = True := eq_true (by omega)
        generalize ((bs.length - e : Nat) : Int) = D at *
        generalize R (d + 3) = r at e1 e2 ⊢
        simp [nc, e1, e2, aExtract, hll, wsub, d1, agg0, eb1, eb2, rC, rT, retT, allV]
      · have d1 : (((bs.length - e : Nat) : Int) < 4) = False := eq_false (by omega)
        generalize ((bs.length - e : Nat) : Int) = D at wsub d1
        by_cases c2 : 1073741824 < v
        · have hP : oneP bs at_ = none := by unfold oneP; rw [hv]; dsimp only; rw [hn]; dsimp only; rw [if_pos (.inr (.inl c2))]
          refine ⟨0, 0, at_, false, tb, ?_, gb, .inl ⟨hP, rfl⟩⟩
          have d2 : ((1073741824 : Int) < (v : Int)) = True := eq_true (by omega)
          generalize R (d + 3) = r at e1 e2 ⊢
          generalize (v : Int) = V1 at *
          simp [nc, e1, e2, aExtract, hll, wsub, d1, d2, agg0, eb1, eb2, rC, rT, retT, allV]
        · have d2 : ((1073741824 : Int) < (v : Int)) = False := eq_false (by omega)
          by_cases c3 : 2 ≤ n
          · have hP : oneP bs at_ = none := by unfold oneP; rw [hv]; dsimp only; rw [hn]; dsimp only; rw [if_pos (.inr (.inr (.inl c3)))]
            refine ⟨0, 0, at_, false, tb, ?_, gb, .inl ⟨hP, rfl⟩⟩
            have d3 : ((2 : Int) ≤ (n : Int)) = True := eq_true (by omega)
            generalize R (d + 3) = r at e1 e2 ⊢
            generalize (v : Int) = V1 at *
            generalize (n : Int) = N1 at *
            simp [nc, e1, e2, aExtract, hll, wsub, d1, d2, d3, agg0, eb1, eb2, rC, rT, retT, allV]
          · have d3 : ((2 : Int) ≤ (n : Int)) = False := eq_false (by omega)
            have wv : IntKind.i64.wrap (v : Int) = (v : Int) := wrapi v (by omega)
            have wn : IntKind.i64.wrap (n : Int) = (n : Int) := wrapi n (by omega)
            have w4 : IntKind.i64.wrap ((e : Int) + 4) = ((e + 4 : Nat) : Int) := by rw [wrap_in _ (by omega) (by omega)]; omega
            obtain ⟨s7, hs7⟩ : ∃ s7, s7 = s1.push (.cells true [.int .i64 0, .int .i64 0]) := ⟨_, rfl⟩
            have nc7 := aNew_cells s1 [.int .i64 0, .int .i64 0]
            rw [← hs7] at nc7
            have g7 : Gr s1 s7 := by rw [hs7]; exact Gr.push g1.1 _
            have z7 : s7.size = s1.size + 1 := by rw [hs7]; simp
            have hc7 : s7.get s1.size = some (.cells true [.int .i64 0, .int .i64 0]) := by rw [hs7]; exact St.get_push_same _ _
            obtain ⟨s8, hs8⟩ : ∃ s8, s8 = s7.set s1.size (.cells true [.int .i64 v, .int .i64 n]) := ⟨_, rfl⟩
            have st8 : aStore 2 (Z (.ptr s1.size 0)) (G2 v n) s7 = some (tt, s8) := by rw [hs8]; exact store2 hc7
            have hc8 : s8.get s1.size = some (.cells true [.int .i64 v, .int .i64 n]) := by rw [hs8]; exact St.get_set_same _ _ _
            have ld8 := load2 hc8
            have g8 : Gr s1 s8 := by
              refine ⟨by rw [hs8]; exact St.wf_set g7.1 (by omega) _, by rw [hs8]; simp; omega, fun b hb => ?_⟩
              rw [hs8, St.get_set_ne _ _ (by omega)]
              exact g7.2.2 b hb
            have z8 : s8.size = s7.size := by rw [hs8]; rfl
            have hag := agg2 v n
            -- what Put says
            have hput : ∃ (y : S) (q : Int) (s9 : St), R (d + 3) 13 [G2 v n] s8 = some (.tup [.s y, .s (.int .i64 q)], s9) ∧ Gr s8 s9 ∧ ((v < 1 ∧ q = 1) ∨ (1 ≤ v ∧ q = 0 ∧ Rd s9 y (U (putG v n)))) := by
              by_cases c4 : v < 1
              · obtain ⟨t, e, g⟩ := put_bad (d + 2) g8.1 (v := v) (n := n) (by omega)
                exact ⟨_, _, t, e, g, .inl ⟨c4, rfl⟩⟩
              · obtain ⟨y, t, e, F⟩ := put_run d g8.1 (v := v) (n := n) (by omega) (by omega) (by omega)
                exact ⟨y, _, t, e, F.gr, .inr ⟨by omega, rfl, F.bs.rd⟩⟩
            obtain ⟨y, q, s9, e9, g9, hq⟩ := hput
            have hc9 : s9.get s1.size = some (.cells true [.int .i64 v, .int .i64 n]) := (g9.2.2 _ (by omega)).trans hc8
            have ld9 := load2 hc9
            have hc0 : s9.get s.size = some (.cells true [.int .i64 0, .int .i64 0]) := (g9.2.2 _ (by omega)).trans ((g8.2.2 _ (by omega)).trans hc1)
            have z9 := g9.2.1
            obtain ⟨s11, hs11⟩ : ∃ s11, s11 = s9.set s.size (.cells true [.int .i64 v, .int .i64 n]) := ⟨_, rfl⟩
            have st11 : aStore 2 (Z (.ptr s.size 0)) (G2 v n) s9 = some (tt, s11) := by rw [hs11]; exact store2 hc0
            have ld11 : aLoadN 2 (Z (.ptr s.size 0)) s11.get = some (G2 v n) := load2 (by rw [hs11]; exact St.get_set_same _ _ _)
            have g11 : Gr s s11 := by
              refine ⟨by rw [hs11]; exact St.wf_set g9.1 (by omega) _, by rw [hs11]; simp; omega, fun b hb => ?_⟩
              rw [hs11, St.get_set_ne _ _ (by omega), g9.2.2 b (by omega), g8.2.2 b (by omega)]
              exact g1.2.2 b hb
            rcases hq with ⟨c4, rfl⟩ | ⟨c4, rfl, hy⟩
            · have hP : oneP bs at_ = none := by unfold oneP; rw [hv]; dsimp only; rw [hn]; dsimp only; rw [if_pos (.inr (.inr (.inr c4)))]
              refine ⟨v, n, (e + 4 : Nat), false, s11, ?_, g11, .inl ⟨hP, rfl⟩⟩
              generalize ((e + 4 : Nat) : Int) = E4 at w4 ⊢
              generalize R (d + 3) = r at e1 e2 e9 ⊢
              generalize (v : Int) = V1 at *
              generalize (n : Int) = N1 at *
              simp [nc, e1, e2, aExtract, hll, wsub, d1, d2, d3, wv, wn, hag, nc7, st8, ld8, e9, ld9, w4, st11, ld11, rC, rT, retT, allV]
            · obtain ⟨yp, pc, hpr⟩ := (h1.keep (t := s9) fun c hc => by have := hx c hc; rw [g9.2.2 c (by omega), g8.2.2 c (by omega)]).piece oc (lo := at_) (hi := e + 4) (by omega) (by rw [U_len]; omega)
              rw [U_drop, U_take] at hpr
              have hgl := putG_len v n
              have e10 := equal_run (d + 2) hy hpr (by omega)
              refine ⟨v, n, (e + 4 : Nat), decide (putG v n = (bs.drop at_).take (e + 4 - at_)), s11, ?_, g11, ?_⟩
              · generalize decide (putG v n = (bs.drop at_).take (e + 4 - at_)) = D10 at e10 ⊢
                generalize ((e + 4 : Nat) : Int) = E4 at w4 pc ⊢
                generalize R (d + 3) = r at e1 e2 e9 e10 ⊢
                generalize (v : Int) = V1 at *
                generalize (n : Int) = N1 at *
                simp [nc, e1, e2, aExtract, hll, wsub, d1, d2, d3, wv, wn, hag, nc7, st8, ld8, e9, ld9, w4, pc, e10, st11, ld11, rC, rT, retT, allV]
              · have hc : ¬ (bs.length < e + 4 ∨ 1073741824 < v ∨ 2 ≤ n ∨ v < 1) := by omega
                by_cases hp : putG v n = (bs.drop at_).take (e + 4 - at_)
                · exact .inr ⟨v, n, e + 4, by unfold oneP; rw [hv]; dsimp only; rw [hn]; dsimp only; rw [if_neg hc, if_pos hp], by simpa using hp, rfl, rfl, rfl⟩
                · exact .inl ⟨by unfold oneP; rw [hv]; dsimp only; rw [hn]; dsimp only; rw [if_neg hc, if_neg hp], by simpa using hp⟩
end
end Go.Proofs.YtgecidicpdobfaaDoor
