/-
  All grants of some bytes by the document's answer; ViewAsks returns true. No conditions but those named in each line.
-/
import Derived.Test.YtgecidicpdobfaaDoorRef
namespace Go.Proofs.YtgecidicpdobfaaDoor
open Go Go.Abs Go.Abs.F
set_option linter.unusedVariables false
section
variable {s t : St} {x y : S} {bs cs : List UInt8} {gs : List (Nat × Nat)}

theorem vget_end (bs : List UInt8) {at_ : Nat} (h : bs.length ≤ at_) : vget bs at_ = none := by
  unfold vget
  split
  · unfold getN
    have : bs[at_ + 0]? = none := by simpa using h
    rw [this]
  · rfl

theorem piece_str {lo hi : Nat} (h1 : lo ≤ hi) (h2 : hi ≤ bs.length) : aPieceStr (Z (.str bs)) (some (I .i64 lo)) (some (I .i64 hi)) none = some (Z (.str ((bs.drop lo).take (hi - lo)))) := by
  show (match aBounds bs.length bs.length (some (I .i64 lo)) (some (I .i64 hi)) none with
    | some (l, h, _) => some (Z (.str ((bs.take h).drop l)))
    | none => none) = _
  rw [aBounds_lh h1 h2]
  dsimp only
  rw [List.drop_take]

theorem str_neq (a b : List UInt8) : aBin .neq (Z (.str a)) (Z (.str b)) = some (B (!decide (a = b))) := rfl
theorem str_eq (a b : List UInt8) : aBin .eql (Z (.str a)) (Z (.str b)) = some (B (decide (a = b))) := rfl

theorem rgets_run (d : Nat) (wf : s.wf) (hl : bs.length ≤ 400) :
    ∃ y t, R (d + 4) 15 [Z (.str bs)] s = some (.tup [.s y, .s (.int .i64 (getP bs).2)], t) ∧ Gr s t ∧ GS t y (getP bs).1 ∧ ∀ c, own y = some c → s.size ≤ c ∧ c < t.size := by
  rw [f15_run]
  unfold f15
  have hll := len_str bs
  obtain ⟨j, τ, lp, y, rfl, hg, hgs, hy⟩ := loops_inv (f := f15_l1 (R (d + 3)) 512) (fun q v u => ∃ (y : S) (acc : List (Nat × Nat)) (a last : Nat), v = [Z (.str bs), Z y, I .i64 a, I .i64 last] ∧ Gr s u ∧ GS u y acc ∧ (∀ c, own y = some c → s.size ≤ c) ∧ a ≤ bs.length ∧ bs.length < q + a ∧ acc.length ≤ a ∧ last ≤ 1073741824 ∧
        getL bs q a last acc = getP bs)
      (fun j u => ∃ y, j = .exit 0 [Z y, I .i64 (getP bs).2] ∧ Gr s u ∧ GS u y (getP bs).1 ∧ ∀ c, own y = some c → s.size ≤ c) (by
    rintro q v u ⟨y, acc, a, last, rfl, hg, hgs, hy, hab, hqa, hal, hlast, hres⟩
    cases q with
    | zero => omega
    | succ q =>
      unfold getL at hres
      -- the loop stops here
      have stop : oneP bs a = none ∨ (∃ v n e, oneP bs a = some (v, n, e) ∧ v ≤ last) → getP bs = (acc, a) := by
        rintro (h | ⟨v, n, e, h, h'⟩)
        · rw [← hres, h]
        · rw [← hres, h]
          dsimp only
          rw [if_pos h']
      by_cases ha' : ¬ a < bs.length
      · right
        have hP : oneP bs a = none := by unfold oneP; rw [vget_end bs (by omega)]
        have hst := stop (.inl hP)
        have c0 : ((a : Int) < (bs.length : Int)) = False := eq_false (by omega)
        refine ⟨.exit 0 [Z y, I .i64 a], u, ?_, (fun v hv => by cases hv), y, by rw [hst], hg, by rw [hst]; exact hgs, hy⟩
        unfold f15_l1
        simp [hll, c0]
      have ha : a < bs.length := by omega
      have c0 : ((a : Int) < (bs.length : Int)) = True := eq_true (by omega)
      have e1 := rget_run (s := u) (bs := bs) (d + 2) (by omega) (at_ := a) (by omega)
      cases hv : vget bs a with
      | none =>
        rw [hv] at e1
        have hP : oneP bs a = none := by unfold oneP; rw [hv]
        have hst := stop (.inl hP)
        right
        obtain ⟨q', hq, hqn⟩ : ∃ q' : Int, q' = (if a ≤ bs.length then 2 else 1) ∧ (q' = 0) = False := ⟨_, rfl, by split <;> simp⟩
        unfold vres at e1
        rw [← hq] at e1
        refine ⟨.exit 0 [Z y, I .i64 a], u, ?_, (fun v hv => by cases hv), y, by rw [hst], hg, by rw [hst]; exact hgs, hy⟩
        unfold f15_l1
        generalize R (d + 3) = r at e1 ⊢
        generalize (a : Int) = A at *
        simp [hll, c0, e1, aExtract, hqn]
      | some p =>
        obtain ⟨v, k⟩ := p
        have hk := vget_lt hv
        rw [hv] at e1
        have e2 := rget_run (s := u) (bs := bs) (d + 2) (by omega) (at_ := k) (by omega)
        unfold vres at e1
        dsimp only at e1
        cases hn : vget bs k with
        | none =>
          rw [hn] at e2
          have hP : oneP bs a = none := by unfold oneP; rw [hv]; dsimp only; rw [hn]
          have hst := stop (.inl hP)
          right
          obtain ⟨q', hq, hqn⟩ : ∃ q' : Int, q' = (if k ≤ bs.length then 2 else 1) ∧ (q' = 0) = False := ⟨_, rfl, by split <;> simp⟩
          unfold vres at e2
          rw [← hq] at e2
          refine ⟨.exit 0 [Z y, I .i64 a], u, ?_, (fun v hv => by cases hv), y, by rw [hst], hg, by rw [hst]; exact hgs, hy⟩
          unfold f15_l1
          generalize R (d + 3) = r at e1 e2 ⊢
          generalize (a : Int) = A at *
          simp [hll, c0, e1, e2, aExtract, hqn]
        | some p =>
          obtain ⟨n, e⟩ := p
          have he := vget_lt hn
          rw [hn] at e2
          unfold vres at e2
          dsimp only at e2
          have w4 : IntKind.i64.wrap ((e : Int) + 4) = ((e + 4 : Nat) : Int) := by rw [wrap_in _ (by omega) (by omega)]; omega
          by_cases c2 : 1073741824 < v
          · have hP : oneP bs a = none := by unfold oneP; rw [hv]; dsimp only; rw [hn]; dsimp only; rw [if_pos (.inr (.inl c2))]
            have hst := stop (.inl hP)
            right
            have d2 : ((1073741824 : Int) < (v : Int)) = True := eq_true (by omega)
            refine ⟨.exit 0 [Z y, I .i64 a], u, ?_, (fun v hv => by cases hv), y, by rw [hst], hg, by rw [hst]; exact hgs, hy⟩
            unfold f15_l1
            generalize R (d + 3) = r at e1 e2 ⊢
            generalize (a : Int) = A at *
            generalize (v : Int) = V1 at *
            simp [hll, c0, e1, e2, aExtract, d2]
          · have d2 : ((1073741824 : Int) < (v : Int)) = False := eq_false (by omega)
            by_cases c3 : 2 ≤ n
            · have hP : oneP bs a = none := by unfold oneP; rw [hv]; dsimp only; rw [hn]; dsimp only; rw [if_pos (.inr (.inr (.inl c3)))]
              have hst := stop (.inl hP)
              right
              have d3 : ((1 : Int) < (n : Int)) = True := eq_true (by omega)
              refine ⟨.exit 0 [Z y, I .i64 a], u, ?_, (fun v hv => by cases hv), y, by rw [hst], hg, by rw [hst]; exact hgs, hy⟩
              unfold f15_l1
              generalize R (d + 3) = r at e1 e2 ⊢
              generalize (a : Int) = A at *
              generalize (v : Int) = V1 at *
              generalize (n : Int) = N1 at *
              simp [hll, c0, e1, e2, aExtract, d2, d3]
            · have d3 : ((1 : Int) < (n : Int)) = False := eq_false (by omega)
              have wv : IntKind.i64.wrap (v : Int) = (v : Int) := wrapi v (by omega)
              have wn : IntKind.i64.wrap (n : Int) = (n : Int) := wrapi n (by omega)
              by_cases c5 : v ≤ last
              · have hst : getP bs = (acc, a) := by
                  cases hP : oneP bs a with
                  | none => exact stop (.inl hP)
                  | some p =>
                    obtain ⟨v', n', e'⟩ := p
                    refine stop (.inr ⟨v', n', e', hP, ?_⟩)
                    unfold oneP at hP
                    rw [hv] at hP
                    dsimp only at hP
                    rw [hn] at hP
                    dsimp only at hP
                    split at hP
                    · cases hP
                    · split at hP
                      · cases hP; exact c5
                      · cases hP
                right
                have d5 : ((v : Int) ≤ (last : Int)) = True := eq_true (by omega)
                refine ⟨.exit 0 [Z y, I .i64 a], u, ?_, (fun v hv => by cases hv), y, by rw [hst], hg, by rw [hst]; exact hgs, hy⟩
                unfold f15_l1
                generalize R (d + 3) = r at e1 e2 ⊢
                generalize (a : Int) = A at *
                generalize (v : Int) = V1 at *
                generalize (n : Int) = N1 at *
                generalize (last : Int) = L1 at *
                simp [hll, c0, e1, e2, aExtract, d2, d3, wv, d5]
              · have d5 : ((v : Int) ≤ (last : Int)) = False := eq_false (by omega)
                by_cases c1 : bs.length < e + 4
                · have hP : oneP bs a = none := by unfold oneP; rw [hv]; dsimp only; rw [hn]; dsimp only; rw [if_pos (.inl c1)]
                  have hst := stop (.inl hP)
                  right
                  have d1 : ((bs.length : Int) < ((e + 4 : Nat) : Int)) = True := eq_true (by omega)
                  refine ⟨.exit 0 [Z y, I .i64 a], u, ?_, (fun v hv => by cases hv), y, by rw [hst], hg, by rw [hst]; exact hgs, hy⟩
                  unfold f15_l1
                  generalize ((e + 4 : Nat) : Int) = E4 at w4 d1
                  generalize R (d + 3) = r at e1 e2 ⊢
                  generalize (a : Int) = A at *
                  generalize (v : Int) = V1 at *
                  generalize (n : Int) = N1 at *
                  generalize (last : Int) = L1 at *
                  simp [hll, c0, e1, e2, aExtract, d2, d3, wv, d5, w4, d1]
                · have d1 : ((bs.length : Int) < ((e + 4 : Nat) : Int)) = False := eq_false (by omega)
                  have hag := agg2 v n
                  obtain ⟨u3, hu3⟩ : ∃ u3, u3 = u.push (.cells true [.int .i64 0, .int .i64 0]) := ⟨_, rfl⟩
                  have nc := aNew_cells u [.int .i64 0, .int .i64 0]
                  rw [← hu3] at nc
                  have k3 : Gr u u3 := by rw [hu3]; exact Gr.push hg.1 _
                  have z3 : u3.size = u.size + 1 := by rw [hu3]; simp
                  have hc3 : u3.get u.size = some (.cells true [.int .i64 0, .int .i64 0]) := by rw [hu3]; exact St.get_push_same _ _
                  obtain ⟨u4, hu4⟩ : ∃ u4, u4 = u3.set u.size (.cells true [.int .i64 v, .int .i64 n]) := ⟨_, rfl⟩
                  have st4 : aStore 2 (Z (.ptr u.size 0)) (G2 v n) u3 = some (tt, u4) := by rw [hu4]; exact store2 hc3
                  have hc4 : u4.get u.size = some (.cells true [.int .i64 v, .int .i64 n]) := by rw [hu4]; exact St.get_set_same _ _ _
                  have ld4 := load2 hc4
                  have k4 : Gr u u4 := by
                    refine ⟨by rw [hu4]; exact St.wf_set k3.1 (by omega) _, by rw [hu4]; simp; omega, fun b hb => ?_⟩
                    rw [hu4, St.get_set_ne _ _ (by omega)]
                    exact k3.2.2 b hb
                  obtain ⟨u5, e5, k5⟩ := rput_run d k4.1 (v := v) (n := n) (by omega) (by omega) (by omega)
                  have z4 : u.size < u4.size := by rw [hu4]; simp; omega
                  have hc5 : u5.get u.size = some (.cells true [.int .i64 v, .int .i64 n]) := (k5.2.2 _ z4).trans hc4
                  have ld5 := load2 hc5
                  have pc := piece_str (bs := bs) (lo := a) (hi := e + 4) (by omega) (by omega)
                  have ne := str_neq (putG v n) ((bs.drop a).take (e + 4 - a))
                  have hc : ¬ (bs.length < e + 4 ∨ 1073741824 < v ∨ 2 ≤ n ∨ v < 1) := by omega
                  have hgs5 : GS u5 y acc := hgs.keep fun c hc => by
                    have := hgs.lt hg.1 hc
                    rw [k5.2.2 c (by omega), k4.2.2 c this]
                  by_cases hp : putG v n = (bs.drop a).take (e + 4 - a)
                  · have hP : oneP bs a = some (v, n, e + 4) := by unfold oneP; rw [hv]; dsimp only; rw [hn]; dsimp only; rw [if_neg hc, if_pos hp]
                    rw [hP] at hres
                    dsimp only at hres
                    rw [if_neg c5] at hres
                    rw [decide_eq_true hp] at ne
                    have nl := lit2 u5 v n
                    obtain ⟨y', u7, ap, wf7, z7, hgs7, fr7, oy⟩ := hgs5.app k5.1 (by omega) v n
                    have z5 := k5.2.1
                    have ld7 : aLoad1 (Z (.ptr u.size 0)) u7.get = some (I .i64 v) := aLoad1_of ((fr7 u.size (by omega) (fun e' => by have := hgs.lt hg.1 e'; omega)).trans hc5) rfl
                    have k7 : Gr s u7 := by
                      refine ⟨wf7, by have := hg.2.1; omega, fun c hc => ?_⟩
                      have := hg.2.1
                      rw [fr7 c (by omega) (fun e => by have := hy c e; omega), k5.2.2 c (by omega), k4.2.2 c (by omega)]
                      exact hg.2.2 c hc
                    left
                    refine ⟨[Z (.str bs), Z y', I .i64 ((e + 4 : Nat) : Int), I .i64 v], u7, q, ?_, rfl, y', acc ++ [(v, n)], e + 4, v, rfl, k7, hgs7, fun c hc => ?_, by omega, by omega, by simp; omega, by omega, hres⟩
                    · unfold f15_l1
                      generalize ((e + 4 : Nat) : Int) = E4 at w4 d1 pc ⊢
                      generalize R (d + 3) = r at e1 e2 e5 ⊢
                      generalize (bs.drop a).take (e + 4 - a) = PP at pc ne
                      generalize putG v n = PG at e5 ne
                      generalize (a : Int) = A at *
                      generalize (v : Int) = V1 at *
                      generalize (n : Int) = N1 at *
                      generalize (last : Int) = L1 at *
                      simp [hll, c0, e1, e2, aExtract, d2, d3, wv, wn, d5, w4, d1, hag, nc, st4, ld4, e5, pc, ne, ld5, nl, ap, ld7]
                    · rcases oy with e' | ⟨c', e', hc'⟩
                      · rw [e'] at hc; exact hy c hc
                      · rw [e'] at hc
                        cases hc
                        have := hg.2.1
                        omega
                  · have hP : oneP bs a = none := by unfold oneP; rw [hv]; dsimp only; rw [hn]; dsimp only; rw [if_neg hc, if_neg hp]
                    have hst := stop (.inl hP)
                    rw [decide_eq_false hp] at ne
                    right
                    refine ⟨.exit 0 [Z y, I .i64 a], u5, ?_, (fun v hv => by cases hv), y, by rw [hst], (hg.trans k4).trans k5, by rw [hst]; exact hgs5, hy⟩
                    unfold f15_l1
                    generalize ((e + 4 : Nat) : Int) = E4 at w4 d1 pc
                    generalize R (d + 3) = r at e1 e2 e5 ⊢
                    generalize (bs.drop a).take (e + 4 - a) = PP at pc ne
                    generalize putG v n = PG at e5 ne
                    generalize (a : Int) = A at *
                    generalize (v : Int) = V1 at *
                    generalize (n : Int) = N1 at *
                    generalize (last : Int) = L1 at *
                    simp [hll, c0, e1, e2, aExtract, d2, d3, wv, wn, d5, w4, d1, hag, nc, st4, ld4, e5, pc, ne]) 512 (bs.length + 1) [Z (.str bs), Z .nils, I .i64 0, I .i64 0] s ⟨.nils, [], 0, 0, rfl, Gr.refl wf, .inl ⟨rfl, rfl⟩, (fun c hc => by cases hc), by omega, by omega, by simp, by omega, rfl⟩ (by omega)
  refine ⟨y, τ, ?_, hg, hgs, fun c hc => ⟨hy c hc, hgs.lt hg.1 hc⟩⟩
  generalize R (d + 3) = r at lp ⊢
  simp [lp, retT, allV]

theorem ne2 (a b : Int) : neB (.a 2 [(0, .i), (1, .i)]) (G2 a b) (G2 a b) = some (B false) := by
  simp [neB, aEq, aEqL, leafEq]

/-- Two slices of the same grants are found to be the same. -/
theorem grants_run (d : Nat) (h : GS s x gs) (k : GS s y gs) (hl : gs.length ≤ 400) : R (d + 1) 16 [Z x, Z y] s = some (B true, s) := by
  rw [f16_run]
  unfold f16
  have hll := h.len
  have kll := k.len
  obtain ⟨j, τ, lp, rfl, rfl⟩ := loops_inv (f := f16_l1 (R d) 512) (fun q v u => ∃ i : Nat, q + i = gs.length ∧ v = [Z x, Z y, I .i64 i] ∧ u = s) (fun j u => j = .exit 0 [] ∧ u = s) (by
    rintro q v u ⟨i, hi, rfl, rfl⟩
    by_cases hil : i < gs.length
    · left
      have hg : gs[i]? = some gs[i] := List.getElem?_eq_getElem hil
      obtain ⟨c, q1, q2, _⟩ := h.at (n := (i : Int)) rfl hg
      obtain ⟨c', q1', q2', _⟩ := k.at (n := (i : Int)) rfl hg
      have w1 : IntKind.i64.wrap ((i : Int) + 1) = ((i + 1 : Nat) : Int) := by rw [wrap_in _ (by omega) (by omega)]; omega
      have c0 : ((i : Int) < (gs.length : Int)) = True := eq_true (by omega)
      have ne := ne2 (gs[i].1 : Nat) (gs[i].2 : Nat)
      refine ⟨[Z x, Z y, I .i64 ((i + 1 : Nat) : Int)], u, q - 1, ?_, by omega, i + 1, by omega, rfl, rfl⟩
      unfold f16_l1
      generalize ((i + 1 : Nat) : Int) = K1 at w1 ⊢
      generalize (i : Int) = K at *
      simp [hll, c0, q1, q2, q1', q2', ne, w1]
    · right
      have c0 : ¬ ((i : Int) < (gs.length : Int)) := by omega
      refine ⟨.exit 0 [], u, ?_, (fun v hv => by cases hv), rfl, rfl⟩
      unfold f16_l1
      simp [hll, c0]) 512 gs.length [Z x, Z y, I .i64 0] s ⟨0, rfl, rfl, rfl⟩ (by omega)
  simp [hll, kll, lp]
end

theorem getL_len (bs : List UInt8) : ∀ (f at_ last : Nat) (acc : List (Nat × Nat)), acc.length ≤ at_ → at_ ≤ bs.length → (getL bs f at_ last acc).1.length ≤ bs.length := by
  intro f
  induction f with
  | zero => intro a l acc h h'; exact Nat.le_trans h h'
  | succ f ih =>
    intro a l acc h h'
    unfold getL
    split
    · exact Nat.le_trans h h'
    · rename_i v n e he
      have := oneP_lt he
      split
      · exact Nat.le_trans h h'
      · exact ih _ _ _ (by simp; omega) (by omega)

theorem getP_len (bs : List UInt8) : (getP bs).1.length ≤ bs.length := getL_len bs _ _ _ _ (Nat.zero_le _) (Nat.zero_le _)

theorem asks_run {s0 : St} (wf : s0.wf) (v n : Int) {x : S} {bs : List UInt8} (h : Rd s0 x (U bs)) (oc : okCap x) (hx : ∀ c, own x = some c → c < s0.size) : ∃ τ, R 7 4 [G2 v n, Z x] s0 = some (B true, τ) := by
  rw [f4_run]
  unfold f4
  obtain ⟨s1, hs1⟩ : ∃ s1, s1 = s0.push (.cells true [.int .i64 v, .int .i64 n]) := ⟨_, rfl⟩
  have nb := aNew_box2 s0 v n
  rw [← hs1] at nb
  have g1 : Gr s0 s1 := by rw [hs1]; exact Gr.push wf _
  have z1 : s1.size = s0.size + 1 := by rw [hs1]; simp
  have hc1 : s1.get s0.size = some (.cells true [.int .i64 v, .int .i64 n]) := by rw [hs1]; exact St.get_push_same _ _
  have ld1 := load2 hc1
  have hll := h.len
  rw [U_len] at hll
  by_cases hlong : 200 < bs.length
  · have c0 : ((200 : Int) < (bs.length : Int)) = True := eq_true (by omega)
    have e1 := told_run 5 s1
    simp only [Nat.reduceAdd] at e1
    refine ⟨s1, ?_⟩
    generalize R 6 = r at e1 ⊢
    simp [nb, hll, c0, e1]
  · have c0 : ((200 : Int) < (bs.length : Int)) = False := eq_false (by omega)
    -- Put, both
    have hput : ∃ (y : S) (q : Int) (ps : List UInt8) (s3 s4 : St), R 6 13 [G2 v n] s1 = some (.tup [.s y, .s (.int .i64 q)], s3) ∧ Gr s1 s3 ∧ Rd s3 y (U ps) ∧ (∀ c, own y = some c → c < s3.size) ∧
        R 6 14 [G2 v n] s3 = some (.tup [.s (.str ps), .s (.int .i64 q)], s4) ∧ Gr s3 s4 := by
      by_cases hm : 1 ≤ v ∧ v ≤ 1073741824 ∧ 0 ≤ n ∧ n < 2
      · obtain ⟨v', rfl⟩ : ∃ v' : Nat, v = v' := ⟨v.toNat, by omega⟩
        obtain ⟨n', rfl⟩ : ∃ n' : Nat, n = n' := ⟨n.toNat, by omega⟩
        obtain ⟨y, s3, e3, F⟩ := put_run 3 g1.1 (v := v') (n := n') (by omega) (by omega) (by omega)
        obtain ⟨s4, e4, g4⟩ := rput_run 3 F.gr.1 (v := v') (n := n') (by omega) (by omega) (by omega)
        exact ⟨y, 0, putG v' n', s3, s4, e3, F.gr, F.bs.rd, fun c hc => (F.own c hc).2, e4, g4⟩
      · obtain ⟨s3, e3, g3⟩ := put_bad 5 g1.1 hm
        obtain ⟨s4, e4, g4⟩ := rput_bad 5 g3.1 hm
        exact ⟨.nils, 1, [], s3, s4, e3, g3, .inl ⟨rfl, .inl rfl⟩, (fun c hc => by cases hc), e4, g4⟩
    obtain ⟨y, q, ps, s3, s4, e3, g3, hy, hyl, e4, g4⟩ := hput
    have hc3 : s3.get s0.size = some (.cells true [.int .i64 v, .int .i64 n]) := (g3.2.2 _ (by omega)).trans hc1
    have ld3 := load2 hc3
    have g04 : Gr s0 s4 := (g1.trans g3).trans g4
    obtain ⟨l, s5, e5, g5, hl5, hlo⟩ := get_run 1 g04.1 (h.keep fun c hc => g04.2.2 c (hx c hc)) oc (fun c hc => Nat.lt_of_lt_of_le (hx c hc) g04.2.1) (by omega)
    have g05 := g04.trans g5
    have hstr := (h.keep (t := s5) fun c hc => g05.2.2 c (hx c hc)).str (U_allb _)
    rw [U_bytes] at hstr
    obtain ⟨l', s6, e6, g6, hl6, hlo'⟩ := rgets_run 2 g05.1 (bs := bs) (by omega)
    have e7 := told_run 5 s6
    have hys := (hy.keep (t := s6) fun c hc => by
      have := hyl c hc
      have := g4.2.1
      have := g5.2.1
      rw [g6.2.2 c (by omega), g5.2.2 c (by omega), g4.2.2 c (by omega)]).str (U_allb _)
    rw [U_bytes] at hys
    have hpl := getP_len bs
    have e8 := grants_run (s := s6) 5 (hl5.keep fun c hc => g6.2.2 c (hlo c hc).2) hl6 (by omega)
    have sq := str_eq ps ps
    rw [decide_eq_true rfl] at sq
    simp only [Nat.reduceAdd] at e5 e6 e7 e8
    refine ⟨s6, ?_⟩
    generalize R 6 = r at e3 e4 e5 e6 e7 e8 ⊢
    simp [nb, hll, c0, ld1, e3, aExtract, ld3, e4, e5, hstr, e6, e7, hys, sq, e8]
end Go.Proofs.YtgecidicpdobfaaDoor
