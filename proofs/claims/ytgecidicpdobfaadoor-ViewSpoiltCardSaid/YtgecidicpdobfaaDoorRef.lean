/-
  The document's own answer for grants' bytes: what its functions compute, in any store. No conditions but those named in each line.
-/
import Derived.Test.YtgecidicpdobfaaDoorGrants
namespace Go.Proofs.YtgecidicpdobfaaDoor
open Go Go.Abs Go.Abs.F
set_option linter.unusedVariables false
section
variable {s t : St} {x y : S} {bs cs : List UInt8} {gs : List (Nat × Nat)}

theorem len_str (bs : List UInt8) : aLenStr (Z (.str bs)) = some (I .i64 bs.length) := rfl
theorem at_str {bs : List UInt8} {j : Nat} {n : Int} {c : UInt8} (hn : n = j) (hc : bs[j]? = some c) : aAtStr (Z (.str bs)) (I .i64 n) = some (I .u8 c.toNat) := by
  subst hn
  have hj := (List.getElem?_eq_some_iff.1 hc).1
  have e : aIdx (I .i64 (j : Int)) bs.length = some j := by
    simp [aIdx, hj]
  show (match aIdx (I .i64 (j : Int)) bs.length with
    | some j => match bs[j]? with
      | some b => some (I .u8 b.toNat)
      | none => none
    | none => none) = _
  rw [e]
  dsimp only
  rw [hc]

theorem rvput_run (d : Nat) (wf : s.wf) (n : Nat) (hn : n < 2 ^ 64) : ∃ t, R (d + 1) 29 [I .u64 n] s = some (Z (.str (vput n)), t) ∧ Gr s t := by
  rw [f29_run]
  unfold f29
  obtain ⟨m, x, acc, τ, lp, hF, hm, hacc⟩ := vput_loop (R d) wf n hn
  have lp' : loops (f29_l1 (R d) 512) 512 [I .u64 n, Z .nils] s = some (.exit 0 [I .u64 m, Z x], τ) := lp
  have nw := lit1 τ m
  have hb : (UInt8.ofNat m).toNat = m := by rw [byte_nat]; omega
  obtain ⟨x', t, ap, hF', _⟩ := hF.lit (cs := [UInt8.ofNat m]) (by simp; omega)
  rw [hacc.1] at hF'
  refine ⟨t, ?_, hF'.gr⟩
  have hw : IntKind.u8.wrap (m : Int) = (m : Int) := by rw [wrap8]; omega
  have hs := hF'.bs.rd.str (U_allb _)
  rw [U_bytes] at hs
  simp only [U, List.map_cons, List.map_nil, List.length_cons, List.length_nil, Nat.zero_add, hb] at ap
  simp [lp', hw, nw, ap, hs]

theorem four_run (d : Nat) (wf : s.wf) (q : Nat) : ∃ t, R (d + 1) 30 [I .u32 q] s = some (Z (.str (four q)), t) ∧ Gr s t := by
  rw [f30_run]
  unfold f30
  have nw := lit4 s (q % 256) (q / 2 ^ 8 % 256) (q / 2 ^ 16 % 256) (q / 2 ^ 24 % 256)
  have hU : U (four q) = [.int .u8 (q % 256 : Nat), .int .u8 (q / 2 ^ 8 % 256 : Nat), .int .u8 (q / 2 ^ 16 % 256 : Nat), .int .u8 (q / 2 ^ 24 % 256 : Nat)] := by
    simp only [U, four, List.map_cons, List.map_nil, byte_nat]
  rw [← hU] at nw
  have c0 := wrap8 q
  have c1 := wrap8 (q / 2 ^ 8)
  have c2 := wrap8 (q / 2 ^ 16)
  have c3 := wrap8 (q / 2 ^ 24)
  have r1 : aBin .shr (I .u32 q) (I .u64 8) = some (I .u32 ((q / 2 ^ 8 : Nat))) := shr_nat .u32 q 8 (by decide)
  have r2 : aBin .shr (I .u32 q) (I .u64 16) = some (I .u32 ((q / 2 ^ 16 : Nat))) := shr_nat .u32 q 16 (by decide)
  have r3 : aBin .shr (I .u32 q) (I .u64 24) = some (I .u32 ((q / 2 ^ 24 : Nat))) := shr_nat .u32 q 24 (by decide)
  have g : Gr s (s.push (.cells true (U (four q)))) := Gr.push wf _
  have rd : Rd (s.push (.cells true (U (four q)))) (.sl s.size 0 4 (.known 4)) (U (four q)) := .inr ⟨s.size, 0, .known 4, true, U (four q), rfl, St.get_push_same _ _, Nat.le_refl _, rfl⟩
  have hs := rd.str (U_allb _)
  rw [U_bytes] at hs
  refine ⟨_, ?_, g⟩
  generalize s.push (.cells true (U (four q))) = t at nw hs ⊢
  generalize ((q / 2 ^ 8 % 256 : Nat) : Int) = Q1 at nw c1
  generalize ((q / 2 ^ 16 % 256 : Nat) : Int) = Q2 at nw c2
  generalize ((q / 2 ^ 24 % 256 : Nat) : Int) = Q3 at nw c3
  generalize ((q % 256 : Nat) : Int) = Q0 at nw c0
  generalize ((q / 2 ^ 8 : Nat) : Int) = P1 at r1 c1
  generalize ((q / 2 ^ 16 : Nat) : Int) = P2 at r2 c2
  generalize ((q / 2 ^ 24 : Nat) : Int) = P3 at r3 c3
  generalize (q : Int) = Q at *
  simp [c0, c1, c2, c3, r1, r2, r3, nw, hs]

theorem rsum_run (d : Nat) (hl : bs.length ≤ 500) : R (d + 2) 31 [Z (.str bs)] s = some (I .u32 (sumB 1 bs), s) := by
  have key : R (d + 1) 39 [I .u32 1, Z (.str bs)] s = some (I .u32 (sumB 1 bs), s) := by
    rw [f39_run]
    unfold f39
    have hll := len_str bs
    obtain ⟨j, τ, lp, hj, hτ⟩ := loops_inv (f := f39_l1 (R d) 512) (fun q v u => ∃ k n : Nat, q + k = bs.length ∧ v = [Z (.str bs), I .u64 n, I .i64 k] ∧ u = s ∧ n < 4294967291 ∧ sumB n (bs.drop k) = sumB 1 bs)
      (fun j u => j = .exit 0 [I .u64 (sumB 1 bs)] ∧ u = s) (by
      rintro q v u ⟨k, n, hk, rfl, rfl, hn, hg⟩
      by_cases hkl : k < bs.length
      · left
        have hc : bs[k]? = some bs[k] := List.getElem?_eq_getElem hkl
        have hd : bs.drop k = bs[k] :: bs.drop (k + 1) := List.drop_eq_getElem_cons hkl
        rw [hd] at hg
        have ix := at_str (n := (k : Int)) rfl hc
        have hcb : bs[k].toNat < 256 := bs[k].toNat_lt
        obtain ⟨A1, A2, A3, A4, hA4, m1, m2, m3, m4⟩ : ∃ A1 A2 A3 A4 : Int, A4 = (((n * 257 + bs[k].toNat + 1) % 4294967291 : Nat) : Int) ∧ aBin .mul (I .u64 n) (I .u64 257) = some (I .u64 A1) ∧ aBin .add (I .u64 A1) (I .u64 bs[k].toNat) = some (I .u64 A2) ∧
            aBin .add (I .u64 A2) (I .u64 1) = some (I .u64 A3) ∧ aBin .rem (I .u64 A3) (I .u64 4294967291) = some (I .u64 A4) := ⟨_, _, _, _, rfl, More.step n bs[k].toNat hn hcb u⟩
        have hw : IntKind.u64.wrap (bs[k].toNat : Int) = (bs[k].toNat : Int) := wrap64 _ (by omega)
        have w1 : IntKind.i64.wrap ((k : Int) + 1) = ((k + 1 : Nat) : Int) := by rw [wrap_in _ (by omega) (by omega)]; omega
        have c0 : ((k : Int) < (bs.length : Int)) = True := eq_true (by omega)
        refine ⟨[Z (.str bs), I .u64 (((n * 257 + bs[k].toNat + 1) % 4294967291 : Nat)), I .i64 ((k + 1 : Nat) : Int)], u, q - 1, ?_, by omega, k + 1, _, by omega, rfl, rfl, Nat.mod_lt _ (by decide), hg⟩
        unfold f39_l1
        generalize ((k + 1 : Nat) : Int) = K1 at w1 ⊢
        rw [← hA4]
        generalize (bs[k].toNat : Int) = C at m2 ix hw
        generalize (k : Int) = K at w1 ix c0 ⊢
        simp only [jn_normal, bd_some, List.getD_cons_zero, List.getD_cons_succ, hll, lss_int, br_true, decide_true, c0, ix, m1, m2, m3, m4, aConv_int, hw, add_int, w1]
      · right
        have hk' : k = bs.length := by omega
        have c0 : ¬ ((k : Int) < (bs.length : Int)) := by omega
        have hg' : n = sumB 1 bs := by
          rw [List.drop_eq_nil_of_le (by omega)] at hg
          exact hg
        refine ⟨.exit 0 [I .u64 (sumB 1 bs)], u, ?_, (fun v hv => by cases hv), rfl, rfl⟩
        unfold f39_l1
        rw [hg']
        simp [hll, c0]) 512 bs.length [Z (.str bs), I .u64 1, I .i64 0] s ⟨0, 1, rfl, rfl, rfl, by decide, rfl⟩ (by omega)
    subst hj; subst hτ
    have hlt := sumB_lt bs 1 (by decide)
    have h32 : IntKind.u32.wrap (sumB 1 bs : Int) = (sumB 1 bs : Int) := by rw [wrap32, Nat.mod_eq_of_lt (by omega)]
    have e1 : aConv .u64 (I .u32 1) = some (I .u64 1) := rfl
    have e2 : aBin .rem (I .u64 1) (I .u64 4294967291) = some (I .u64 1) := rfl
    simp [e1, e2, lp, h32]
  rw [f31_run]
  unfold f31
  simp [key]

theorem rgetN_run (r : CallF) (N : Nat) (hl : bs.length ≤ 100000) {at_ : Nat} (ha : at_ ≤ 100000) (res : Option (Nat × Nat)) (hres : getN bs at_ 10 0 0 = res) :
    loops (f32_l1 r N) 512 [Z (.str bs), I .i64 at_, I .u64 0, I .i64 0] s = some (vjo at_ res, s) := by
  obtain ⟨j, τ, lp, hj, hτ⟩ := loops_inv (f := f32_l1 r N) (fun q v u => ∃ k n : Nat, q + k = 10 ∧ v = [Z (.str bs), I .i64 at_, I .u64 n, I .i64 k] ∧ u = s ∧ n < 2 ^ 64 ∧ getN bs at_ q k n = res)
    (fun j u => j = vjo at_ res ∧ u = s) (by
    rintro q v u ⟨k, n, hk, rfl, rfl, hn, hg⟩
    have hll := len_str bs
    cases q with
    | zero =>
      right
      have hk' : k = 10 := by omega
      subst hk'
      have : res = none := by rw [← hg]; rfl
      subst this
      refine ⟨.exit 0 [I .i64 at_], u, ?_, (fun v hv => by cases hv), rfl, rfl⟩
      unfold f32_l1
      simp
    | succ q =>
      have c0 : ((k : Int) < 10) = True := eq_true (by omega)
      have w0 : IntKind.i64.wrap ((at_ : Int) + k) = ((at_ + k : Nat) : Int) := by rw [wrap_in _ (by omega) (by omega)]; omega
      unfold getN at hg
      cases hc : bs[at_ + k]? with
      | none =>
        rw [hc] at hg
        subst hg
        right
        have hle : bs.length ≤ at_ + k := by simpa using hc
        have c1 : (((at_ + k : Nat) : Int) < (bs.length : Int)) = False := eq_false (by omega)
        refine ⟨.exit 0 [I .i64 at_], u, ?_, (fun v hv => by cases hv), rfl, rfl⟩
        unfold f32_l1
        generalize ((at_ + k : Nat) : Int) = A at w0 c1 ⊢
        generalize (k : Int) = K at *
        simp [c0, w0, hll, c1]
      | some c =>
        rw [hc] at hg
        simp only at hg
        have hlt := (List.getElem?_eq_some_iff.1 hc).1
        have c1 : (((at_ + k : Nat) : Int) < (bs.length : Int)) = True := eq_true (by omega)
        have ix := at_str (n := ((at_ + k : Nat) : Int)) rfl hc
        have hcb : c.toNat < 256 := c.toNat_lt
        have hcv : IntKind.u64.wrap (c.toNat : Int) = (c.toNat : Int) := wrap64 _ (by omega)
        have hand : aBin .and (I .u64 c.toNat) (I .u64 127) = some (I .u64 (c.toNat % 128 : Nat)) := by
          have := and_u64 c.toNat 127 (by omega) (by decide)
          rw [show (c.toNat &&& 127 : Nat) = c.toNat % 128 from Nat.and_two_pow_sub_one_eq_mod c.toNat 7] at this
          exact this
        have hm7 : IntKind.i64.wrap (7 * (k : Int)) = ((7 * k : Nat) : Int) := by rw [wrap_in _ (by omega) (by omega)]; omega
        have hm8 : IntKind.u64.wrap ((7 * k : Nat) : Int) = ((7 * k : Nat) : Int) := wrap64 _ (by omega)
        have w1 : IntKind.i64.wrap ((k : Int) + 1) = ((k + 1 : Nat) : Int) := by rw [wrap_in _ (by omega) (by omega)]; omega
        have w2 : IntKind.i64.wrap (((at_ + k : Nat) : Int) + 1) = ((at_ + k + 1 : Nat) : Int) := by rw [wrap_in _ (by omega) (by omega)]; omega
        by_cases h9 : k = 9 ∧ 1 < c.toNat
        · rw [if_pos h9] at hg
          subst hg
          right
          have d9 : ((k : Int) = 9) = True := eq_true (by omega)
          have d1 : ((1 : Int) < (c.toNat : Int)) = True := eq_true (by omega)
          refine ⟨.exit 0 [I .i64 at_], u, ?_, (fun v hv => by cases hv), rfl, rfl⟩
          unfold f32_l1
          generalize ((at_ + k : Nat) : Int) = A at w0 c1 ix ⊢
          generalize (k : Int) = K at *
          generalize (c.toNat : Int) = C at *
          simp [c0, w0, hll, c1, ix, hcv, d9, d1]
        · rw [if_neg h9] at hg
          have hpow : c.toNat % 128 * 2 ^ (7 * k) < 2 ^ 64 := by
            by_cases e9 : k = 9
            · subst e9
              have : c.toNat % 128 ≤ 1 := by omega
              calc c.toNat % 128 * 2 ^ (7 * 9) ≤ 1 * 2 ^ 63 := Nat.mul_le_mul_right _ this
                _ < 2 ^ 64 := by decide
            · have hk8 : 7 * k ≤ 56 := by omega
              have h128 : c.toNat % 128 < 2 ^ 7 := by omega
              calc c.toNat % 128 * 2 ^ (7 * k) ≤ c.toNat % 128 * 2 ^ 56 := Nat.mul_le_mul_left _ (Nat.pow_le_pow_right (by omega) hk8)
                _ < 2 ^ 64 := by omega
          have hshl := shl_u64 (c.toNat % 128) (7 * k) hpow (by omega)
          have hor := or_u64 n (c.toNat % 128 * 2 ^ (7 * k)) hn hpow
          have hn' : (n ||| c.toNat % 128 * 2 ^ (7 * k)) < 2 ^ 64 := Nat.or_lt_two_pow hn hpow
          obtain ⟨M, hM⟩ : ∃ M, M = (n ||| c.toNat % 128 * 2 ^ (7 * k)) := ⟨_, rfl⟩
          rw [← hM] at hor hn' hg
          have hcase : ((k : Int) = 9) = False ∨ (((k : Int) = 9) = True ∧ ((1 : Int) < (c.toNat : Int)) = False) := by
            by_cases e9 : k = 9
            · exact .inr ⟨eq_true (by omega), eq_false (fun h => h9 ⟨e9, by omega⟩)⟩
            · exact .inl (eq_false (by omega))
          by_cases h128 : 128 ≤ c.toNat
          · rw [if_pos h128] at hg
            left
            have d1 : ((c.toNat : Int) < (128 : Int)) = False := eq_false (by omega)
            refine ⟨[Z (.str bs), I .i64 at_, I .u64 M, I .i64 ((k + 1 : Nat) : Int)], u, q, ?_, rfl, k + 1, M, by omega, rfl, rfl, hn', hg⟩
            generalize ((k + 1 : Nat) : Int) = K1 at w1 ⊢
            unfold f32_l1
            generalize ((c.toNat % 128 * 2 ^ (7 * k) : Nat) : Int) = SH at hshl hor
            generalize ((c.toNat % 128 : Nat) : Int) = L at hand hshl
            generalize ((7 * k : Nat) : Int) = K7 at hm7 hm8 hshl
            generalize ((at_ + k : Nat) : Int) = A at w0 c1 ix
            generalize (k : Int) = K at *
            generalize (c.toNat : Int) = C at *
            rcases hcase with e9 | ⟨e9, e1⟩
            · simp [c0, w0, hll, c1, ix, hcv, e9, hand, hm7, hm8, hshl, hor, d1, w1]
            · simp [c0, w0, hll, c1, ix, hcv, e9, e1, hand, hm7, hm8, hshl, hor, d1, w1]
          · rw [if_neg h128] at hg
            right
            have d1 : ((c.toNat : Int) < (128 : Int)) = True := eq_true (by omega)
            by_cases hz : 0 < k ∧ c.toNat = 0
            · rw [if_pos hz] at hg
              subst hg
              have d2 : ((0 : Int) < (k : Int)) = True := eq_true (by omega)
              have d3 : ((c.toNat : Int) = 0) = True := eq_true (by omega)
              refine ⟨.exit 0 [I .i64 at_], u, ?_, (fun v hv => by cases hv), rfl, rfl⟩
              unfold f32_l1
              generalize ((c.toNat % 128 * 2 ^ (7 * k) : Nat) : Int) = SH at hshl hor
              generalize ((c.toNat % 128 : Nat) : Int) = L at hand hshl
              generalize ((7 * k : Nat) : Int) = K7 at hm7 hm8 hshl
              generalize ((at_ + k : Nat) : Int) = A at w0 c1 ix
              generalize (k : Int) = K at *
              generalize (c.toNat : Int) = C at *
              rcases hcase with e9 | ⟨e9, e1⟩
              · simp [c0, w0, hll, c1, ix, hcv, e9, hand, hm7, hm8, hshl, hor, d1, d2, d3]
              · simp [c0, w0, hll, c1, ix, hcv, e9, e1, hand, hm7, hm8, hshl, hor, d1, d2, d3]
            · rw [if_neg hz] at hg
              subst hg
              refine ⟨.ret (.tup [.s (.int .u64 M), .s (.int .i64 ((at_ + k + 1 : Nat) : Int)), .s (.int .i64 0)]), u, ?_, (fun v hv => by cases hv), rfl, rfl⟩
              have hcase2 : ((c.toNat : Int) = 0) = False ∨ (((c.toNat : Int) = 0) = True ∧ ((0 : Int) < (k : Int)) = False) := by
                by_cases e0 : c.toNat = 0
                · exact .inr ⟨eq_true (by omega), eq_false (fun h => hz ⟨by omega, e0⟩)⟩
                · exact .inl (eq_false (by omega))
              unfold f32_l1
              generalize ((c.toNat % 128 * 2 ^ (7 * k) : Nat) : Int) = SH at hshl hor
              generalize ((c.toNat % 128 : Nat) : Int) = L at hand hshl
              generalize ((7 * k : Nat) : Int) = K7 at hm7 hm8 hshl
              generalize ((at_ + k + 1 : Nat) : Int) = A1 at w2 ⊢
              generalize ((at_ + k : Nat) : Int) = A at w0 w2 c1 ix
              generalize (k : Int) = K at *
              generalize (c.toNat : Int) = C at *
              rcases hcase with e9 | ⟨e9, e1⟩ <;> rcases hcase2 with d2 | ⟨d2, d3⟩
              · simp [c0, w0, hll, c1, ix, hcv, e9, hand, hm7, hm8, hshl, hor, d1, d2, w2, retT, allV]
              · simp [c0, w0, hll, c1, ix, hcv, e9, hand, hm7, hm8, hshl, hor, d1, d2, d3, w2, retT, allV]
              · simp [c0, w0, hll, c1, ix, hcv, e9, e1, hand, hm7, hm8, hshl, hor, d1, d2, w2, retT, allV]
              · simp [c0, w0, hll, c1, ix, hcv, e9, e1, hand, hm7, hm8, hshl, hor, d1, d2, d3, w2, retT, allV]) 512 10 [Z (.str bs), I .i64 at_, I .u64 0, I .i64 0] s ⟨0, 0, rfl, rfl, rfl, by decide, hres⟩ (by omega)
  subst hτ
  subst hj
  exact lp

theorem rget_run (d : Nat) (hl : bs.length ≤ 100000) {at_ : Nat} (ha : at_ ≤ 100000) : R (d + 1) 32 [Z (.str bs), I .i64 at_] s = some (vres at_ bs.length (vget bs at_), s) := by
  rw [f32_run]
  unfold f32
  have hll := len_str bs
  have c0 : ¬ (at_ : Int) < 0 := by omega
  by_cases hle : at_ ≤ bs.length
  · have c1 : ¬ (bs.length : Int) < (at_ : Int) := by omega
    have lp := rgetN_run (s := s) (R d) 512 hl ha _ rfl
    unfold vget
    rw [if_pos hle]
    cases hg : getN bs at_ 10 0 0 with
    | none =>
      rw [hg] at lp
      simp [c0, c1, hll, lp, vjo, vres, hle, retT, allV]
    | some p =>
      obtain ⟨n, e⟩ := p
      rw [hg] at lp
      simp [c0, c1, hll, lp, vjo, vres]
  · have c1 : (bs.length : Int) < (at_ : Int) := by omega
    unfold vget
    rw [if_neg hle]
    simp [c0, c1, hll, vres, hle, retT, allV]

theorem str_add (a b : List UInt8) (h : a.length + b.length ≤ 100000) : aBin .add (Z (.str a)) (Z (.str b)) = some (Z (.str (a ++ b))) := by
  have : ¬ ((a.length + b.length : Nat) : Int) > IntKind.i64.max := by
    show ¬ _ > (9223372036854775807 : Int)
    omega
  simp only [aBin, aStr, if_neg this]

theorem rput_run (d : Nat) (wf : s.wf) {v n : Nat} (h1 : 1 ≤ v) (h2 : v ≤ 1073741824) (h3 : n < 2) : ∃ t, R (d + 3) 14 [G2 v n] s = some (.tup [.s (.str (putG v n)), .s (.int .i64 0)], t) ∧ Gr s t := by
  rw [f14_run]
  unfold f14
  obtain ⟨s1, hs1⟩ : ∃ s1, s1 = s.push (.cells true [.int .i64 v, .int .i64 n]) := ⟨_, rfl⟩
  have nb := aNew_box2 s v n
  rw [← hs1] at nb
  have g1 : Gr s s1 := by rw [hs1]; exact Gr.push wf _
  have hc1 : s1.get s.size = some (.cells true [.int .i64 v, .int .i64 n]) := by rw [hs1]; exact St.get_push_same _ _
  have l0 : aLoad1 (Z (.ptr s.size 0)) s1.get = some (I .i64 v) := aLoad1_of hc1 rfl
  have l1 : aLoad1 (Z (.ptr s.size 1)) s1.get = some (I .i64 n) := aLoad1_of hc1 rfl
  have z1 : s1.size = s.size + 1 := by rw [hs1]; simp
  have w1 := wrap64 v (by omega)
  have w2 := wrap64 n (by omega)
  obtain ⟨s2, e2, k2⟩ := rvput_run (d + 1) g1.1 v (by omega)
  have l1' : aLoad1 (Z (.ptr s.size 1)) s2.get = some (I .i64 n) := aLoad1_of ((k2.2.2 _ (by omega)).trans hc1) rfl
  obtain ⟨s3, e3, k3⟩ := rvput_run (d + 1) k2.1 n (by omega)
  have hv := vput_len v
  have hn := vput_len n
  have e4 := str_add (vput v) (vput n) (by omega)
  have e5 := rsum_run (s := s3) (bs := vput v ++ vput n) d (by simp; omega)
  obtain ⟨q, hq⟩ : ∃ q, q = sumB 1 (vput v ++ vput n) := ⟨_, rfl⟩
  rw [← hq] at e5
  obtain ⟨s6, e6, k6⟩ := four_run (d + 1) k3.1 q
  have e7 := str_add (vput v ++ vput n) (four q) (by simp [four_len]; omega)
  have hP : putG v n = vput v ++ vput n ++ four q := by rw [hq]; rfl
  have d0 : ((v : Int) < 1) = False := eq_false (by omega)
  have d1 : ((1073741824 : Int) < v) = False := eq_false (by omega)
  have d2 : ((n : Int) < 0) = False := eq_false (by omega)
  have d3 : ((1 : Int) < n) = False := eq_false (by omega)
  refine ⟨s6, ?_, ((g1.trans k2).trans k3).trans k6⟩
  rw [hP]
  generalize R (d + 2) = r at e2 e3 e5 e6 ⊢
  generalize vput v ++ vput n ++ four q = P at e7 ⊢
  generalize vput v ++ vput n = P1 at *
  generalize (q : Int) = Q at *
  simp [nb, l0, l1, l1', d0, d1, d2, d3, w1, w2, e2, e3, e4, e5, e6, e7, retT, allV]

theorem rput_bad (d : Nat) (wf : s.wf) {v n : Int} (h : ¬ (1 ≤ v ∧ v ≤ 1073741824 ∧ 0 ≤ n ∧ n < 2)) : ∃ t, R (d + 1) 14 [G2 v n] s = some (.tup [.s (.str []), .s (.int .i64 1)], t) ∧ Gr s t := by
  rw [f14_run]
  unfold f14
  obtain ⟨s1, hs1⟩ : ∃ s1, s1 = s.push (.cells true [.int .i64 v, .int .i64 n]) := ⟨_, rfl⟩
  have nb := aNew_box2 s v n
  rw [← hs1] at nb
  have g1 : Gr s s1 := by rw [hs1]; exact Gr.push wf _
  have hc1 : s1.get s.size = some (.cells true [.int .i64 v, .int .i64 n]) := by rw [hs1]; exact St.get_push_same _ _
  have l0 : aLoad1 (Z (.ptr s.size 0)) s1.get = some (I .i64 v) := aLoad1_of hc1 rfl
  have l1 : aLoad1 (Z (.ptr s.size 1)) s1.get = some (I .i64 n) := aLoad1_of hc1 rfl
  refine ⟨s1, ?_, g1⟩
  by_cases d0 : v < 1
  · simp [nb, l0, d0, retT, allV]
  · by_cases d1 : 1073741824 < v
    · simp [nb, l0, d0, d1, retT, allV]
    · by_cases d2 : n < 0
      · simp [nb, l0, l1, d0, d1, d2, retT, allV]
      · have d3 : 1 < n := by omega
        simp [nb, l0, l1, d0, d1, d2, d3, retT, allV]
end
end Go.Proofs.YtgecidicpdobfaaDoor
