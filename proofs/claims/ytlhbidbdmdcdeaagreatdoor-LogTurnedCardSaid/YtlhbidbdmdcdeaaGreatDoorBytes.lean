/-
  Numbers' bytes, sums and comparisons of bytes: what the functions compute, in any store. No conditions but those named in each line.
-/
import Derived.Test.YtlhbidbdmdcdeaaGreatDoorAbsE
import Derived.Test.YtlhbidbdmdcdeaaGreatDoorWalk
namespace Go.Proofs.YtlhbidbdmdcdeaaGreatDoor
open Go Go.Abs Go.Abs.F
set_option linter.unusedVariables false
section
variable {s t : St} {x y : S} {bs cs : List UInt8}

def vjo (at_ : Nat) : Option (Nat × Nat) → JO
  | some (n, e) => .ret (.tup [.s (.int .u64 n), .s (.int .i64 e), .s (.int .i64 0)])
  | none => .exit 0 [I .i64 at_]

theorem getN_run (r : CallF) (N : Nat) (h : RB s x bs) (hl : bs.length ≤ 100000) {at_ : Nat} (ha : at_ ≤ 100000) (res : Option (Nat × Nat)) (hres : getN bs at_ 10 0 0 = res) :
    loops (f54_l1 r N) 8192 [Z x, I .i64 at_, I .u64 0, I .i64 0] s = some (vjo at_ res, s) := by
  obtain ⟨j, τ, lp, hj, hτ⟩ := loops_inv (f := f54_l1 r N) (fun q v u => ∃ k n : Nat, q + k = 10 ∧ v = [Z x, I .i64 at_, I .u64 n, I .i64 k] ∧ u = s ∧ n < 2 ^ 64 ∧ getN bs at_ q k n = res)
    (fun j u => j = vjo at_ res ∧ u = s) (by
    rintro q v u ⟨k, n, hk, rfl, rfl, hn, hg⟩
    have hll := h.lenB
    cases q with
    | zero =>
      right
      have hk' : k = 10 := by omega
      subst hk'
      have : res = none := by rw [← hg]; rfl
      subst this
      refine ⟨.exit 0 [I .i64 at_], u, ?_, (fun v hv => by cases hv), rfl, rfl⟩
      unfold f54_l1
      simp
    | succ q =>
      have c0 : (k : Int) < 10 := by omega
      have w0 : IntKind.i64.wrap ((at_ : Int) + k) = ((at_ + k : Nat) : Int) := by rw [wrap_in _ (by omega) (by omega)]; omega
      unfold getN at hg
      cases hc : bs[at_ + k]? with
      | none =>
        rw [hc] at hg
        subst hg
        right
        have hle : bs.length ≤ at_ + k := by simpa using hc
        have c1 : (bs.length : Int) ≤ ((at_ + k : Nat) : Int) := by omega
        refine ⟨.exit 0 [I .i64 at_], u, ?_, (fun v hv => by cases hv), rfl, rfl⟩
        unfold f54_l1
        generalize ((at_ + k : Nat) : Int) = A at w0 c1 ⊢
        simp [c0, w0, hll, c1]
      | some c =>
        rw [hc] at hg
        simp only at hg
        have hlt := (List.getElem?_eq_some_iff.1 hc).1
        have c1 : ¬ (bs.length : Int) ≤ ((at_ + k : Nat) : Int) := by omega
        obtain ⟨p, ix, ld⟩ := h.atB (n := ((at_ + k : Nat) : Int)) rfl hc
        have hcb : c.toNat < 256 := c.toNat_lt
        have hand : aBin .and (I .u8 c.toNat) (I .u8 127) = some (I .u8 (c.toNat % 128 : Nat)) := by
          have := and_u8 c.toNat 127 hcb (by decide)
          rw [show (c.toNat &&& 127 : Nat) = c.toNat % 128 from Nat.and_two_pow_sub_one_eq_mod c.toNat 7] at this
          exact this
        have hconv : IntKind.u64.wrap ((c.toNat % 128 : Nat) : Int) = ((c.toNat % 128 : Nat) : Int) := wrap64 _ (by omega)
        have hm7 : IntKind.i64.wrap (7 * (k : Int)) = ((7 * k : Nat) : Int) := by rw [wrap_in _ (by omega) (by omega)]; omega
        have hm8 : IntKind.u64.wrap ((7 * k : Nat) : Int) = ((7 * k : Nat) : Int) := wrap64 _ (by omega)
        have w1 : IntKind.i64.wrap ((k : Int) + 1) = ((k + 1 : Nat) : Int) := by rw [wrap_in _ (by omega) (by omega)]; omega
        have w2 : IntKind.i64.wrap (((at_ + k : Nat) : Int) + 1) = ((at_ + k + 1 : Nat) : Int) := by rw [wrap_in _ (by omega) (by omega)]; omega
        by_cases h9 : k = 9 ∧ 1 < c.toNat
        · rw [if_pos h9] at hg
          subst hg
          right
          have d9 : ((k : Int) = 9) = True := eq_true (by omega)
          have d1 : ((1 : Int) < (c.toNat : Int)) = True := eq_true (by omega)
          refine ⟨.exit 0 [I .i64 at_], u, ?_, (fun v hv => by cases hv), rfl, rfl⟩
          unfold f54_l1
          generalize ((at_ + k : Nat) : Int) = A at w0 c1 ix ⊢
          generalize (k : Int) = K at *
          generalize (c.toNat : Int) = C at *
          simp [c0, w0, hll, c1, ix, ld, d9, d1]
        · rw [if_neg h9] at hg
          have hpow : c.toNat % 128 * 2 ^ (7 * k) < 2 ^ 64 := by
            by_cases e9 : k = 9
            · subst e9
              have : c.toNat % 128 ≤ 1 := by omega
              calc c.toNat % 128 * 2 ^ (7 * 9) ≤ 1 * 2 ^ 63 := Nat.mul_le_mul_right _ this
                _ < 2 ^ 64 := by decide
            · have hk8 : 7 * k ≤ 56 := by omega
              have h128 : c.toNat % 128 < 2 ^ 7 := by omega
              calc c.toNat % 128 * 2 ^ (7 * k) ≤ c.toNat % 128 * 2 ^ 56 := Nat.mul_le_mul_left _ (Nat.pow_le_pow_right (by omega) hk8)
                _ < 2 ^ 64 := by omega
          have hshl := shl_u64 (c.toNat % 128) (7 * k) hpow (by omega)
          have hor := or_u64 n (c.toNat % 128 * 2 ^ (7 * k)) hn hpow
          have hn' : (n ||| c.toNat % 128 * 2 ^ (7 * k)) < 2 ^ 64 := Nat.or_lt_two_pow hn hpow
          obtain ⟨M, hM⟩ : ∃ M, M = (n ||| c.toNat % 128 * 2 ^ (7 * k)) := ⟨_, rfl⟩
          rw [← hM] at hor hn' hg
          have hcase : ((k : Int) = 9) = False ∨ (((k : Int) = 9) = True ∧ ((1 : Int) < (c.toNat : Int)) = False) := by
            by_cases e9 : k = 9
            · exact .inr ⟨eq_true (by omega), eq_false (fun h => h9 ⟨e9, by omega⟩)⟩
            · exact .inl (eq_false (by omega))
          by_cases h128 : 128 ≤ c.toNat
          · rw [if_pos h128] at hg
            left
            have d1 : ((128 : Int) ≤ (c.toNat : Int)) = True := eq_true (by omega)
            refine ⟨[Z x, I .i64 at_, I .u64 M, I .i64 ((k + 1 : Nat) : Int)], u, q, ?_, rfl, k + 1, M, by omega, rfl, rfl, hn', hg⟩
            generalize ((k + 1 : Nat) : Int) = K1 at w1 ⊢
            unfold f54_l1
            generalize ((c.toNat % 128 * 2 ^ (7 * k) : Nat) : Int) = SH at hshl hor
            generalize ((c.toNat % 128 : Nat) : Int) = L at hand hconv hshl
            generalize ((7 * k : Nat) : Int) = K7 at hm7 hm8 hshl
            generalize ((at_ + k : Nat) : Int) = A at w0 c1 ix
            generalize (k : Int) = K at *
            generalize (c.toNat : Int) = C at *
            rcases hcase with e9 | ⟨e9, e1⟩
            · simp [c0, w0, hll, c1, ix, ld, e9, hand, hconv, hm7, hm8, hshl, hor, d1, w1]
            · simp [c0, w0, hll, c1, ix, ld, e9, e1, hand, hconv, hm7, hm8, hshl, hor, d1, w1]
          · rw [if_neg h128] at hg
            right
            have d1 : ((128 : Int) ≤ (c.toNat : Int)) = False := eq_false (by omega)
            by_cases hz : 0 < k ∧ c.toNat = 0
            · rw [if_pos hz] at hg
              subst hg
              have d2 : ((0 : Int) < (k : Int)) = True := eq_true (by omega)
              have d3 : ((c.toNat : Int) = 0) = True := eq_true (by omega)
              refine ⟨.exit 0 [I .i64 at_], u, ?_, (fun v hv => by cases hv), rfl, rfl⟩
              unfold f54_l1
              generalize ((c.toNat % 128 * 2 ^ (7 * k) : Nat) : Int) = SH at hshl hor
              generalize ((c.toNat % 128 : Nat) : Int) = L at hand hconv hshl
              generalize ((7 * k : Nat) : Int) = K7 at hm7 hm8 hshl
              generalize ((at_ + k : Nat) : Int) = A at w0 c1 ix
              generalize (k : Int) = K at *
              generalize (c.toNat : Int) = C at *
              rcases hcase with e9 | ⟨e9, e1⟩
              · simp [c0, w0, hll, c1, ix, ld, e9, hand, hconv, hm7, hm8, hshl, hor, d1, d2, d3]
              · simp [c0, w0, hll, c1, ix, ld, e9, e1, hand, hconv, hm7, hm8, hshl, hor, d1, d2, d3]
            · rw [if_neg hz] at hg
              subst hg
              refine ⟨.ret (.tup [.s (.int .u64 M), .s (.int .i64 ((at_ + k + 1 : Nat) : Int)), .s (.int .i64 0)]), u, ?_, (fun v hv => by cases hv), rfl, rfl⟩
              have hcase2 : ((0 : Int) < (k : Int)) = False ∨ (((0 : Int) < (k : Int)) = True ∧ ((c.toNat : Int) = 0) = False) := by
                by_cases e0 : 0 < k
                · exact .inr ⟨eq_true (by omega), eq_false (fun h => hz ⟨e0, by omega⟩)⟩
                · exact .inl (eq_false (by omega))
              unfold f54_l1
              generalize ((c.toNat % 128 * 2 ^ (7 * k) : Nat) : Int) = SH at hshl hor
              generalize ((c.toNat % 128 : Nat) : Int) = L at hand hconv hshl
              generalize ((7 * k : Nat) : Int) = K7 at hm7 hm8 hshl
              generalize ((at_ + k + 1 : Nat) : Int) = A1 at w2 ⊢
              generalize ((at_ + k : Nat) : Int) = A at w0 w2 c1 ix
              generalize (k : Int) = K at *
              generalize (c.toNat : Int) = C at *
              rcases hcase with e9 | ⟨e9, e1⟩ <;> rcases hcase2 with d2 | ⟨d2, d3⟩
              · simp [c0, w0, hll, c1, ix, ld, e9, hand, hconv, hm7, hm8, hshl, hor, d1, d2, w2, retT, allV]
              · simp [c0, w0, hll, c1, ix, ld, e9, hand, hconv, hm7, hm8, hshl, hor, d1, d2, d3, w2, retT, allV]
              · simp [c0, w0, hll, c1, ix, ld, e9, e1, hand, hconv, hm7, hm8, hshl, hor, d1, d2, w2, retT, allV]
              · simp [c0, w0, hll, c1, ix, ld, e9, e1, hand, hconv, hm7, hm8, hshl, hor, d1, d2, d3, w2, retT, allV]) 8192 10 [Z x, I .i64 at_, I .u64 0, I .i64 0] s ⟨0, 0, rfl, rfl, rfl, by decide, hres⟩ (by omega)
  subst hτ
  subst hj
  exact lp

def vres (at_ len : Nat) : Option (Nat × Nat) → T
  | some (n, e) => .tup [.s (.int .u64 n), .s (.int .i64 e), .s (.int .i64 0)]
  | none => .tup [.s (.int .u64 0), .s (.int .i64 at_), .s (.int .i64 (if at_ ≤ len then 2 else 1))]

theorem vget_run (d : Nat) (h : RB s x bs) (hl : bs.length ≤ 100000) {at_ : Nat} (ha : at_ ≤ 100000) : R (d + 1) 54 [Z x, I .i64 at_] s = some (vres at_ bs.length (vget bs at_), s) := by
  rw [f54_run]
  unfold f54
  have hll := h.lenB
  have c0 : ¬ (at_ : Int) < 0 := by omega
  by_cases hle : at_ ≤ bs.length
  · have c1 : ¬ (bs.length : Int) < (at_ : Int) := by omega
    have lp := getN_run (R d) 8192 h hl ha _ rfl
    unfold vget
    rw [if_pos hle]
    cases hg : getN bs at_ 10 0 0 with
    | none =>
      rw [hg] at lp
      simp [c0, c1, hll, lp, vjo, vres, hle, retT, allV]
    | some p =>
      obtain ⟨n, e⟩ := p
      rw [hg] at lp
      simp [c0, c1, hll, lp, vjo, vres]
  · have c1 : (bs.length : Int) < (at_ : Int) := by omega
    unfold vget
    rw [if_neg hle]
    simp [c0, c1, hll, vres, hle, retT, allV]

/-- A sum of bytes. -/
theorem sum_run (d : Nat) (h : RB s x bs) (hl : bs.length ≤ 8000) : R (d + 2) 69 [Z x] s = some (I .u32 (sumB 1 bs), s) := by
  have key : R (d + 1) 68 [I .u32 1, Z x] s = some (I .u32 (sumB 1 bs), s) := by
    rw [f68_run]
    unfold f68
    have hll := h.lenB
    obtain ⟨j, τ, lp, hj, hτ⟩ := loops_inv (f := f68_l1 (R d) 8192) (fun q v u => ∃ k n : Nat, q + k = bs.length ∧ v = [I .u64 n, Z x, I .i64 bs.length, I .i64 k] ∧ u = s ∧ n < 4294967291 ∧ sumB n (bs.drop k) = sumB 1 bs)
      (fun j u => j = .exit 0 [I .u64 (sumB 1 bs)] ∧ u = s) (by
      rintro q v u ⟨k, n, hk, rfl, rfl, hn, hg⟩
      by_cases hkl : k < bs.length
      · left
        have hc : bs[k]? = some bs[k] := List.getElem?_eq_getElem hkl
        have hd : bs.drop k = bs[k] :: bs.drop (k + 1) := List.drop_eq_getElem_cons hkl
        rw [hd] at hg
        obtain ⟨p, ix, ld⟩ := h.atB (n := (k : Int)) rfl hc
        have hcb : bs[k].toNat < 256 := bs[k].toNat_lt
        obtain ⟨A1, A2, A3, A4, hA4, m1, m2, m3, m4⟩ : ∃ A1 A2 A3 A4 : Int, A4 = (((n * 257 + bs[k].toNat + 1) % 4294967291 : Nat) : Int) ∧ aBin .mul (I .u64 n) (I .u64 257) = some (I .u64 A1) ∧ aBin .add (I .u64 A1) (I .u64 bs[k].toNat) = some (I .u64 A2) ∧
            aBin .add (I .u64 A2) (I .u64 1) = some (I .u64 A3) ∧ aBin .rem (I .u64 A3) (I .u64 4294967291) = some (I .u64 A4) := ⟨_, _, _, _, rfl, More.step n bs[k].toNat hn hcb u⟩
        have hw : IntKind.u64.wrap (bs[k].toNat : Int) = (bs[k].toNat : Int) := wrap64 _ (by omega)
        have w1 : IntKind.i64.wrap ((k : Int) + 1) = ((k + 1 : Nat) : Int) := by rw [wrap_in _ (by omega) (by omega)]; omega
        have c0 : ((k : Int) < (bs.length : Int)) = True := eq_true (by omega)
        refine ⟨[I .u64 (((n * 257 + bs[k].toNat + 1) % 4294967291 : Nat)), Z x, I .i64 bs.length, I .i64 ((k + 1 : Nat) : Int)], u, q - 1, ?_, by omega, k + 1, _, by omega, rfl, rfl, Nat.mod_lt _ (by decide), hg⟩
        unfold f68_l1
        generalize ((k + 1 : Nat) : Int) = K1 at w1 ⊢
        rw [← hA4]
        generalize (bs[k].toNat : Int) = C at m2 ld hw
        generalize (k : Int) = K at w1 ix c0 ⊢
        simp only [jn_normal, bd_some, List.getD_cons_zero, List.getD_cons_succ, lss_int, br_true, decide_true, c0, ix, ld, m1, m2, m3, m4, aConv_int, hw, add_int, w1]
      · right
        have hk' : k = bs.length := by omega
        have c0 : ¬ ((k : Int) < (bs.length : Int)) := by omega
        have hg' : n = sumB 1 bs := by
          rw [List.drop_eq_nil_of_le (by omega)] at hg
          exact hg
        refine ⟨.exit 0 [I .u64 (sumB 1 bs)], u, ?_, (fun v hv => by cases hv), rfl, rfl⟩
        unfold f68_l1
        rw [hg']
        simp [c0]) 8192 bs.length [I .u64 1, Z x, I .i64 bs.length, I .i64 0] s ⟨0, 1, rfl, rfl, rfl, by decide, rfl⟩ (by omega)
    subst hj; subst hτ
    have hlt := sumB_lt bs 1 (by decide)
    have h32 : IntKind.u32.wrap (sumB 1 bs : Int) = (sumB 1 bs : Int) := by rw [wrap32, Nat.mod_eq_of_lt (by omega)]
    have e1 : aConv .u64 (I .u32 1) = some (I .u64 1) := rfl
    have e2 : aBin .rem (I .u64 1) (I .u64 4294967291) = some (I .u64 1) := rfl
    simp [e1, e2, hll, lp, h32]
  rw [f69_run]
  unfold f69
  simp [key]

/-- Two slices of bytes are compared. -/
theorem equal_run (d : Nat) (h : RB s x bs) (k : RB s y cs) (hl : bs.length ≤ 8000) : R (d + 1) 70 [Z x, Z y] s = some (B (decide (bs = cs)), s) := by
  rw [f70_run]
  unfold f70
  have hll := h.lenB
  have kll := k.lenB
  by_cases hle : bs.length = cs.length
  · have e0 : ((bs.length : Int) = (cs.length : Int)) = True := eq_true (by omega)
    obtain ⟨j, τ, lp, hj, hτ⟩ := loops_inv (f := f70_l1 (R d) 8192) (fun q v u => ∃ i : Nat, q + i = bs.length ∧ v = [Z x, Z y, I .i64 bs.length, I .i64 i] ∧ u = s ∧ bs.take i = cs.take i)
      (fun j u => (j = .exit 0 [] ∧ bs = cs ∨ j = .ret (B false) ∧ bs ≠ cs) ∧ u = s) (by
      rintro q v u ⟨i, hi, rfl, rfl, hg⟩
      by_cases hil : i < bs.length
      · have hb : bs[i]? = some bs[i] := List.getElem?_eq_getElem hil
        have hc : cs[i]? = some (cs[i]'(by omega)) := List.getElem?_eq_getElem (by omega)
        obtain ⟨p, ix, ld⟩ := h.atB (n := (i : Int)) rfl hb
        obtain ⟨p', ix', ld'⟩ := k.atB (n := (i : Int)) rfl hc
        have w1 : IntKind.i64.wrap ((i : Int) + 1) = ((i + 1 : Nat) : Int) := by rw [wrap_in _ (by omega) (by omega)]; omega
        have c0 : ((i : Int) < (bs.length : Int)) = True := eq_true (by omega)
        by_cases he : bs[i] = cs[i]'(by omega)
        · left
          refine ⟨[Z x, Z y, I .i64 bs.length, I .i64 ((i + 1 : Nat) : Int)], u, q - 1, ?_, by omega, i + 1, by omega, rfl, rfl, ?_⟩
          · unfold f70_l1
            rw [← he] at ld'
            generalize ((i + 1 : Nat) : Int) = K1 at w1 ⊢
            generalize (i : Int) = K at *
            simp [c0, ix, ix', ld, ld', w1]
          · rw [List.take_add_one, List.take_add_one, hg, hb, hc, he]
        · right
          have hne : ¬ ((bs[i].toNat : Int) = ((cs[i]'(by omega)).toNat : Int)) := fun e => he (UInt8.toNat.inj (by omega))
          refine ⟨.ret (B false), u, ?_, (fun v hv => by cases hv), .inr ⟨rfl, fun e => he (by simp [e])⟩, rfl⟩
          unfold f70_l1
          generalize (bs[i].toNat : Int) = X1 at *
          generalize ((cs[i]'(by omega)).toNat : Int) = X2 at *
          generalize (i : Int) = K at *
          simp [c0, ix, ix', ld, ld', hne]
      · right
        have c0 : ¬ ((i : Int) < (bs.length : Int)) := by omega
        refine ⟨.exit 0 [], u, ?_, (fun v hv => by cases hv), .inl ⟨rfl, ?_⟩, rfl⟩
        · unfold f70_l1
          simp [c0]
        · rwa [List.take_of_length_le (by omega), List.take_of_length_le (by omega)] at hg) 8192 bs.length [Z x, Z y, I .i64 bs.length, I .i64 0] s ⟨0, rfl, rfl, rfl, by simp⟩ (by omega)
    subst hτ
    rcases hj with ⟨rfl, he⟩ | ⟨rfl, he⟩
    · subst he
      simp [hll, kll, lp]
    · simp [hll, kll, e0, lp, he]
  · have e0 : ¬ ((bs.length : Int) = (cs.length : Int)) := by omega
    have hne : bs ≠ cs := fun e => hle (by rw [e])
    simp [hll, kll, e0, hne]
theorem vput_loop (r : CallF) (wf : s.wf) (n : Nat) (hn : n < 2 ^ 64) : ∃ (m : Nat) (x : S) (acc : List UInt8) (τ : St), loops (f52_l1 r 8192) 8192 [I .u64 n, Z .nils] s = some (.exit 0 [I .u64 m, Z x], τ) ∧ FB s τ x acc ∧ m < 128 ∧ acc ++ [UInt8.ofNat m] = vput n ∧ acc.length ≤ 10 := by
  obtain ⟨j, τ, lp, m, x, acc, rfl, hF, hm, hacc⟩ := loops_inv (f := f52_l1 r 8192) (fun q v u => ∃ (m : Nat) (x : S) (acc : List UInt8), v = [I .u64 m, Z x] ∧ FB s u x acc ∧ m < 2 ^ (64 - 7 * (10 - q)) ∧ q ≤ 10 ∧ acc.length = 10 - q ∧ acc ++ putN q m = vput n)
      (fun j u => ∃ (m : Nat) (x : S) (acc : List UInt8), j = .exit 0 [I .u64 m, Z x] ∧ FB s u x acc ∧ m < 128 ∧ acc ++ [UInt8.ofNat m] = vput n ∧ acc.length ≤ 10) (by
    rintro q v u ⟨m, x, acc, rfl, hF, hm, hq, hal, hacc⟩
    have hm64 : m < 2 ^ 64 := Nat.lt_of_lt_of_le hm (Nat.pow_le_pow_right (by omega) (by omega))
    by_cases h128 : 128 ≤ m
    · cases q with
      | zero =>
        exfalso
        have : 64 - 7 * (10 - 0) = 0 := by decide
        rw [this] at hm
        omega
      | succ q =>
        left
        have hor : aBin .or (I .u8 ((m % 256 : Nat))) (I .u8 128) = some (I .u8 ((UInt8.ofNat (m % 128 + 128)).toNat)) := by
          have h1 := or_u8 (m % 256) 128 (by omega) (by omega)
          rw [or128 _ (by omega)] at h1
          have e1 : (UInt8.ofNat (m % 128 + 128)).toNat = m % 256 % 128 + 128 := by rw [byte_nat]; omega
          rw [e1]
          exact h1
        have hw := wrap8 m
        have hshr : aBin .shr (I .u64 m) (I .u64 7) = some (I .u64 ((m / 2 ^ 7 : Nat))) := shr_nat .u64 m 7 (by decide)
        have c0 : ((128 : Int) ≤ (m : Int)) = True := eq_true (by omega)
        have nw := lit1 u (UInt8.ofNat (m % 128 + 128)).toNat
        obtain ⟨x', t, ap, hF', hz, _⟩ := FB.lit hF (cs := [UInt8.ofNat (m % 128 + 128)]) (by simp; omega)
        unfold putN at hacc
        rw [if_pos h128] at hacc
        refine ⟨[I .u64 ((m / 2 ^ 7 : Nat)), Z x'], t, q, ?_, rfl, m / 2 ^ 7, x', acc ++ [UInt8.ofNat (m % 128 + 128)], rfl, hF', ?_, by omega, by simp; omega, by rw [List.append_assoc]; exact hacc⟩
        · unfold f52_l1
          simp only [U, List.map_cons, List.map_nil, List.length_cons, List.length_nil, Nat.zero_add] at ap
          generalize ((m / 2 ^ 7 : Nat) : Int) = M7 at hshr ⊢
          generalize ((m % 256 : Nat) : Int) = M8 at hw hor
          generalize ((UInt8.ofNat (m % 128 + 128)).toNat : Int) = B8 at hor nw ap
          generalize (m : Int) = M at *
          simp [c0, hw, hor, nw, ap, hshr]
        · have hq0 : q ≠ 0 := fun e => by
            subst e
            have : 64 - 7 * (10 - (0 + 1)) = 1 := by decide
            rw [this] at hm
            omega
          have h2 : (2 : Nat) ^ (64 - 7 * (10 - (q + 1))) = 2 ^ (64 - 7 * (10 - q)) * 2 ^ 7 := by
            rw [← Nat.pow_add]
            congr 1
            omega
          rw [h2] at hm
          exact Nat.div_lt_of_lt_mul (by rw [Nat.mul_comm]; exact hm)
    · right
      have c0 : ((128 : Int) ≤ (m : Int)) = False := eq_false (by omega)
      refine ⟨.exit 0 [I .u64 m, Z x], u, ?_, (fun v hv => by cases hv), m, x, acc, rfl, hF, by omega, ?_, by omega⟩
      · unfold f52_l1
        simp [c0]
      · rw [← hacc]
        cases q with
        | zero => rfl
        | succ q => unfold putN; rw [if_neg h128]) 8192 10 [I .u64 n, Z .nils] s ⟨n, .nils, [], rfl, Fr.nil 1 wf, hn, by omega, rfl, rfl⟩ (by omega)
  exact ⟨m, x, acc, τ, lp, hF, hm, hacc⟩

/-- A number's bytes. -/
theorem vput_run (d : Nat) (wf : s.wf) (n : Nat) (hn : n < 2 ^ 64) : ∃ x t, R (d + 1) 52 [I .u64 n] s = some (Z x, t) ∧ FB s t x (vput n) := by
  rw [f52_run]
  unfold f52
  obtain ⟨m, x, acc, τ, lp, hF, hm, hacc⟩ := vput_loop (R d) wf n hn
  have nw := lit1 τ m
  have hb : (UInt8.ofNat m).toNat = m := by rw [byte_nat]; omega
  obtain ⟨x', t, ap, hF', _⟩ := FB.lit hF (cs := [UInt8.ofNat m]) (by simp; omega)
  rw [hacc.1] at hF'
  refine ⟨x', t, ?_, hF'⟩
  have hw : IntKind.u8.wrap (m : Int) = (m : Int) := by rw [wrap8]; omega
  simp only [U, List.map_cons, List.map_nil, List.length_cons, List.length_nil, Nat.zero_add, hb] at ap
  simp [lp, hw, nw, ap]
end
end Go.Proofs.YtlhbidbdmdcdeaaGreatDoor
