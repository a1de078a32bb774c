/-
  Numbers' bytes, sums and comparisons of bytes: what the functions compute, in any store. No conditions but those named in each line.
-/
import Derived.Test.YtgecidicpdobfaaDoorOps2
namespace Go.Proofs.YtgecidicpdobfaaDoor
open Go Go.Abs Go.Abs.F
set_option linter.unusedVariables false

/-- Bytes as cells. -/
def U (bs : List UInt8) : List S := bs.map fun b => .int .u8 b.toNat

@[simp] theorem U_len (bs : List UInt8) : (U bs).length = bs.length := by simp [U]
theorem U_append (a b : List UInt8) : U (a ++ b) = U a ++ U b := by simp [U]
theorem U_get (bs : List UInt8) (j : Nat) : (U bs)[j]? = (bs[j]?).map fun b => S.int .u8 b.toNat := by simp [U]
theorem U_take (bs : List UInt8) (n : Nat) : (U bs).take n = U (bs.take n) := by simp [U, List.map_take]
theorem U_drop (bs : List UInt8) (n : Nat) : (U bs).drop n = U (bs.drop n) := by simp [U, List.map_drop]
theorem U_bytes (bs : List UInt8) : bytesOf (U bs) = bs := by
  unfold bytesOf U
  rw [List.map_map]
  have : (byteOf ∘ fun b : UInt8 => S.int .u8 b.toNat) = id := by
    funext b
    simp [byteOf]
  rw [this, List.map_id]
theorem U_allb (bs : List UInt8) : AllB (U bs) := fun y hy => by
  obtain ⟨b, _, rfl⟩ := List.mem_map.1 hy
  exact ⟨_, rfl⟩

theorem bv_nat (n a : Nat) (h : a < 2 ^ n) : (BitVec.ofInt n (a : Int)).toNat = a := by
  rw [BitVec.toNat_ofInt]
  have : ((a : Int) % ((2 ^ n : Nat) : Int)) = a := Int.emod_eq_of_lt (by omega) (by omega)
  rw [this]
  rfl

theorem wrap8 (x : Nat) : IntKind.u8.wrap x = ((x % 256 : Nat) : Int) := by
  unfold IntKind.wrap
  simp [IntKind.signed, IntKind.bits]
theorem wrap32 (x : Nat) : IntKind.u32.wrap x = ((x % 4294967296 : Nat) : Int) := by
  unfold IntKind.wrap
  simp [IntKind.signed, IntKind.bits]
theorem wrap64 (x : Nat) (h : x < 2 ^ 64) : IntKind.u64.wrap x = (x : Int) := wrap_u64_in _ (by omega) (by omega)
theorem wrapi (x : Nat) (h : x < 2 ^ 63) : IntKind.i64.wrap x = (x : Int) := wrap_in _ (by omega) (by omega)

theorem and_u8 (a b : Nat) (ha : a < 256) (hb : b < 256) : aBin .and (I .u8 a) (I .u8 b) = some (I .u8 ((a &&& b : Nat))) := by
  have h : a &&& b < 256 := Nat.lt_of_le_of_lt Nat.and_le_left ha
  show some (I .u8 (IntKind.u8.wrap ((BitVec.ofInt 8 a &&& BitVec.ofInt 8 b).toNat : Nat))) = _
  rw [BitVec.toNat_and, bv_nat 8 a ha, bv_nat 8 b hb, wrap8, Nat.mod_eq_of_lt h]

theorem or_u8 (a b : Nat) (ha : a < 256) (hb : b < 256) : aBin .or (I .u8 a) (I .u8 b) = some (I .u8 ((a ||| b : Nat))) := by
  have h : a ||| b < 2 ^ 8 := Nat.or_lt_two_pow ha hb
  show some (I .u8 (IntKind.u8.wrap ((BitVec.ofInt 8 a ||| BitVec.ofInt 8 b).toNat : Nat))) = _
  rw [BitVec.toNat_or, bv_nat 8 a ha, bv_nat 8 b hb, wrap8, Nat.mod_eq_of_lt h]

theorem and_u64 (a b : Nat) (ha : a < 2 ^ 64) (hb : b < 2 ^ 64) : aBin .and (I .u64 a) (I .u64 b) = some (I .u64 ((a &&& b : Nat))) := by
  have h : a &&& b < 2 ^ 64 := Nat.lt_of_le_of_lt Nat.and_le_left ha
  show some (I .u64 (IntKind.u64.wrap ((BitVec.ofInt 64 a &&& BitVec.ofInt 64 b).toNat : Nat))) = _
  rw [BitVec.toNat_and, bv_nat 64 a ha, bv_nat 64 b hb, wrap64 _ h]

theorem or_u64 (a b : Nat) (ha : a < 2 ^ 64) (hb : b < 2 ^ 64) : aBin .or (I .u64 a) (I .u64 b) = some (I .u64 ((a ||| b : Nat))) := by
  have h : a ||| b < 2 ^ 64 := Nat.or_lt_two_pow ha hb
  show some (I .u64 (IntKind.u64.wrap ((BitVec.ofInt 64 a ||| BitVec.ofInt 64 b).toNat : Nat))) = _
  rw [BitVec.toNat_or, bv_nat 64 a ha, bv_nat 64 b hb, wrap64 _ h]

theorem shl_u64 (a b : Nat) (h : a * 2 ^ b < 2 ^ 64) (hb : b < 64) : aBin .shl (I .u64 a) (I .u64 b) = some (I .u64 ((a * 2 ^ b : Nat))) := by
  have e : min b 64 = b := by omega
  have h0 : ¬ ((b : Int) < 0) := by omega
  have e2 : (a : Int) * 2 ^ b = ((a * 2 ^ b : Nat) : Int) := by push_cast; rfl
  simp only [aBin, aShift, if_neg h0, Int.toNat_natCast, IntKind.bits, e, e2, wrap64 _ h]

theorem shr_nat (k : IntKind) (a b : Nat) (hb : b ≤ k.bits) : aBin .shr (I k a) (I .u64 b) = some (I k ((a / 2 ^ b : Nat))) := by
  have e : min b k.bits = b := by omega
  have h0 : ¬ ((b : Int) < 0) := by omega
  have e2 : (a : Int).fdiv (2 ^ b) = ((a / 2 ^ b : Nat) : Int) := by
    have : (2 : Int) ^ b = ((2 ^ b : Nat) : Int) := by push_cast; rfl
    rw [this, Int.fdiv_eq_ediv_of_nonneg _ (Int.natCast_nonneg _)]
    exact (Int.natCast_ediv _ _).symm
  simp only [aBin, aShift, if_neg h0, Int.toNat_natCast, e, e2]

/-! The functions. -/

def sumB (n : Nat) : List UInt8 → Nat
  | [] => n
  | c :: r => sumB ((n * 257 + c.toNat + 1) % 4294967291) r

def putN : Nat → Nat → List UInt8
  | 0, n => [UInt8.ofNat n]
  | f + 1, n => if 128 ≤ n then UInt8.ofNat (n % 128 + 128) :: putN f (n / 128) else [UInt8.ofNat n]
def vput (n : Nat) : List UInt8 := putN 10 n

def four (n : Nat) : List UInt8 := [UInt8.ofNat n, UInt8.ofNat (n / 256), UInt8.ofNat (n / 65536), UInt8.ofNat (n / 16777216)]

def putG (v s : Nat) : List UInt8 := vput v ++ vput s ++ four (sumB 1 (vput v ++ vput s))

def getN (bs : List UInt8) (at_ : Nat) : Nat → Nat → Nat → Option (Nat × Nat)
  | 0, _, _ => none
  | f + 1, k, n => match bs[at_ + k]? with
    | none => none
    | some c =>
      if k = 9 ∧ 1 < c.toNat then none else
      if 128 ≤ c.toNat then getN bs at_ f (k + 1) (n ||| (c.toNat % 128) * 2 ^ (7 * k)) else
      if 0 < k ∧ c.toNat = 0 then none else some (n ||| (c.toNat % 128) * 2 ^ (7 * k), at_ + k + 1)
def vget (bs : List UInt8) (at_ : Nat) : Option (Nat × Nat) := if at_ ≤ bs.length then getN bs at_ 10 0 0 else none

def oneP (bs : List UInt8) (at_ : Nat) : Option (Nat × Nat × Nat) := match vget bs at_ with
  | none => none
  | some (v, k) => match vget bs k with
    | none => none
    | some (s, e) => if bs.length < e + 4 ∨ 1073741824 < v ∨ 2 ≤ s ∨ v < 1 then none else
      if putG v s = (bs.drop at_).take (e + 4 - at_) then some (v, s, e + 4) else none

def getL (bs : List UInt8) : Nat → Nat → Nat → List (Nat × Nat) → List (Nat × Nat) × Nat
  | 0, at_, _, acc => (acc, at_)
  | f + 1, at_, last, acc => match oneP bs at_ with
    | none => (acc, at_)
    | some (v, s, to) => if v ≤ last then (acc, at_) else getL bs f to v (acc ++ [(v, s)])
def getP (bs : List UInt8) : List (Nat × Nat) × Nat := getL bs (bs.length + 1) 0 0 []

theorem getN_lt {bs : List UInt8} {at_ : Nat} : ∀ (f k n : Nat) {r : Nat × Nat}, getN bs at_ f k n = some r → at_ + k < r.2 ∧ r.2 ≤ bs.length := by
  intro f
  induction f with
  | zero => intro k n r h; cases h
  | succ f ih =>
    intro k n r h
    unfold getN at h
    split at h
    · cases h
    · rename_i c hc
      have hlt := (List.getElem?_eq_some_iff.1 hc).1
      split at h
      · cases h
      · split at h
        · have := ih _ _ h
          omega
        · split at h
          · cases h
          · cases h
            exact ⟨by show at_ + k < at_ + k + 1; omega, by show at_ + k + 1 ≤ bs.length; omega⟩

theorem vget_lt {bs : List UInt8} {at_ v e : Nat} (h : vget bs at_ = some (v, e)) : at_ < e ∧ e ≤ bs.length := by
  unfold vget at h
  split at h
  · have := getN_lt _ _ _ h
    exact ⟨by simpa using this.1, this.2⟩
  · cases h

theorem oneP_lt {bs : List UInt8} {at_ v s e : Nat} (h : oneP bs at_ = some (v, s, e)) : at_ + 6 ≤ e ∧ e ≤ bs.length ∧ 1 ≤ v ∧ v ≤ 1073741824 ∧ s < 2 := by
  unfold oneP at h
  split at h
  · cases h
  · rename_i v' k hv
    split at h
    · cases h
    · rename_i s' e' hs
      have h1 := vget_lt hv
      have h2 := vget_lt hs
      split at h
      · cases h
      · split at h
        · cases h
          omega
        · cases h

section
variable {s : St} {x y : S} {bs cs : List UInt8}

/-- A byte of a slice. -/
theorem Rd.at (h : Rd s x (U bs)) {j : Nat} {n : Int} {c : UInt8} (hn : n = j) (hc : bs[j]? = some c) : ∃ p, aIndexSl 1 (Z x) (I .i64 n) = some p ∧ aLoad1 p s.get = some (I .u8 c.toNat) := by
  have hj := (List.getElem?_eq_some_iff.1 hc).1
  rcases h with ⟨h, _⟩ | ⟨b, o, cap, w, vs, rfl, h1, h2, h3⟩
  · have := congrArg List.length h
    rw [U_len, List.length_nil] at this
    omega
  · refine ⟨Z (.ptr b (o + j)), by rw [aIndexSl_int hn (by simpa using hj), Nat.mul_one], aLoad1_of h1 ?_⟩
    have h4 : ((vs.drop o).take (U bs).length)[j]? = (U bs)[j]? := by rw [h3]
    rw [U_get, hc, List.getElem?_take_of_lt (by simpa using hj), List.getElem?_drop] at h4
    exact h4

def vjo (at_ : Nat) : Option (Nat × Nat) → JO
  | some (n, e) => .ret (.tup [.s (.int .u64 n), .s (.int .i64 e), .s (.int .i64 0)])
  | none => .exit 0 [I .i64 at_]

theorem getN_run (r : CallF) (N : Nat) (h : Rd s x (U bs)) (hl : bs.length ≤ 100000) {at_ : Nat} (ha : at_ ≤ 100000) (res : Option (Nat × Nat)) (hres : getN bs at_ 10 0 0 = res) :
    loops (f36_l1 r N) 512 [Z x, I .i64 at_, I .u64 0, I .i64 0] s = some (vjo at_ res, s) := by
  obtain ⟨j, τ, lp, hj, hτ⟩ := loops_inv (f := f36_l1 r N) (fun q v u => ∃ k n : Nat, q + k = 10 ∧ v = [Z x, I .i64 at_, I .u64 n, I .i64 k] ∧ u = s ∧ n < 2 ^ 64 ∧ getN bs at_ q k n = res)
    (fun j u => j = vjo at_ res ∧ u = s) (by
    rintro q v u ⟨k, n, hk, rfl, rfl, hn, hg⟩
    have hll := h.len
    rw [U_len] at hll
    cases q with
    | zero =>
      right
      have hk' : k = 10 := by omega
      subst hk'
      have : res = none := by rw [← hg]; rfl
      subst this
      refine ⟨.exit 0 [I .i64 at_], u, ?_, (fun v hv => by cases hv), rfl, rfl⟩
      unfold f36_l1
      simp
    | succ q =>
      have c0 : (k : Int) < 10 := by omega
      have w0 : IntKind.i64.wrap ((at_ : Int) + k) = ((at_ + k : Nat) : Int) := by rw [wrap_in _ (by omega) (by omega)]; omega
      unfold getN at hg
      cases hc : bs[at_ + k]? with
      | none =>
        rw [hc] at hg
        subst hg
        right
        have hle : bs.length ≤ at_ + k := by simpa using hc
        have c1 : (bs.length : Int) ≤ ((at_ + k : Nat) : Int) := by omega
        refine ⟨.exit 0 [I .i64 at_], u, ?_, (fun v hv => by cases hv), rfl, rfl⟩
        unfold f36_l1
        generalize ((at_ + k : Nat) : Int) = A at w0 c1 ⊢
        simp [c0, w0, hll, c1]
      | some c =>
        rw [hc] at hg
        simp only at hg
        have hlt := (List.getElem?_eq_some_iff.1 hc).1
        have c1 : ¬ (bs.length : Int) ≤ ((at_ + k : Nat) : Int) := by omega
        obtain ⟨p, ix, ld⟩ := h.at (n := ((at_ + k : Nat) : Int)) rfl hc
        have hcb : c.toNat < 256 := c.toNat_lt
        have hand : aBin .and (I .u8 c.toNat) (I .u8 127) = some (I .u8 (c.toNat % 128 : Nat)) := by
          have := and_u8 c.toNat 127 hcb (by decide)
          rw [show (c.toNat &&& 127 : Nat) = c.toNat % 128 from Nat.and_two_pow_sub_one_eq_mod c.toNat 7] at this
          exact this
        have hconv : IntKind.u64.wrap ((c.toNat % 128 : Nat) : Int) = ((c.toNat % 128 : Nat) : Int) := wrap64 _ (by omega)
        have hm7 : IntKind.i64.wrap (7 * (k : Int)) = ((7 * k : Nat) : Int) := by rw [wrap_in _ (by omega) (by omega)]; omega
        have hm8 : IntKind.u64.wrap ((7 * k : Nat) : Int) = ((7 * k : Nat) : Int) := wrap64 _ (by omega)
        have w1 : IntKind.i64.wrap ((k : Int) + 1) = ((k + 1 : Nat) : Int) := by rw [wrap_in _ (by omega) (by omega)]; omega
        have w2 : IntKind.i64.wrap (((at_ + k : Nat) : Int) + 1) = ((at_ + k + 1 : Nat) : Int) := by rw [wrap_in _ (by omega) (by omega)]; omega
        by_cases h9 : k = 9 ∧ 1 < c.toNat
        · rw [if_pos h9] at hg
          subst hg
          right
          have d9 : ((k : Int) = 9) = True := eq_true (by omega)
          have d1 : ((1 : Int) < (c.toNat : Int)) = True := eq_true (by omega)
          refine ⟨.exit 0 [I .i64 at_], u, ?_, (fun v hv => by cases hv), rfl, rfl⟩
          unfold f36_l1
          generalize ((at_ + k : Nat) : Int) = A at w0 c1 ix ⊢
          generalize (k : Int) = K at *
          generalize (c.toNat : Int) = C at *
          simp [c0, w0, hll, c1, ix, ld, d9, d1]
        · rw [if_neg h9] at hg
          have hpow : c.toNat % 128 * 2 ^ (7 * k) < 2 ^ 64 := by
            by_cases e9 : k = 9
            · subst e9
              have : c.toNat % 128 ≤ 1 := by omega
              calc c.toNat % 128 * 2 ^ (7 * 9) ≤ 1 * 2 ^ 63 := Nat.mul_le_mul_right _ this
                _ < 2 ^ 64 := by decide
            · have hk8 : 7 * k ≤ 56 := by omega
              have h128 : c.toNat % 128 < 2 ^ 7 := by omega
              calc c.toNat % 128 * 2 ^ (7 * k) ≤ c.toNat % 128 * 2 ^ 56 := Nat.mul_le_mul_left _ (Nat.pow_le_pow_right (by omega) hk8)
                _ < 2 ^ 64 := by omega
          have hshl := shl_u64 (c.toNat % 128) (7 * k) hpow (by omega)
          have hor := or_u64 n (c.toNat % 128 * 2 ^ (7 * k)) hn hpow
          have hn' : (n ||| c.toNat % 128 * 2 ^ (7 * k)) < 2 ^ 64 := Nat.or_lt_two_pow hn hpow
          obtain ⟨M, hM⟩ : ∃ M, M = (n ||| c.toNat % 128 * 2 ^ (7 * k)) := ⟨_, rfl⟩
          rw [← hM] at hor hn' hg
          have hcase : ((k : Int) = 9) = False ∨ (((k : Int) = 9) = True ∧ ((1 : Int) < (c.toNat : Int)) = False) := by
            by_cases e9 : k = 9
            · exact .inr ⟨eq_true (by omega), eq_false (fun h => h9 ⟨e9, by omega⟩)⟩
            · exact .inl (eq_false (by omega))
          by_cases h128 : 128 ≤ c.toNat
          · rw [if_pos h128] at hg
            left
            have d1 : ((128 : Int) ≤ (c.toNat : Int)) = True := eq_true (by omega)
            refine ⟨[Z x, I .i64 at_, I .u64 M, I .i64 ((k + 1 : Nat) : Int)], u, q, ?_, rfl, k + 1, M, by omega, rfl, rfl, hn', hg⟩
            generalize ((k + 1 : Nat) : Int) = K1 at w1 ⊢
            unfold f36_l1
            generalize ((c.toNat % 128 * 2 ^ (7 * k) : Nat) : Int) = SH at hshl hor
            generalize ((c.toNat % 128 : Nat) : Int) = L at hand hconv hshl
            generalize ((7 * k : Nat) : Int) = K7 at hm7 hm8 hshl
            generalize ((at_ + k : Nat) : Int) = A at w0 c1 ix
            generalize (k : Int) = K at *
            generalize (c.toNat : Int) = C at *
            rcases hcase with e9 | ⟨e9, e1⟩
            · simp [c0, w0, hll, c1, ix, ld, e9, hand, hconv, hm7, hm8, hshl, hor, d1, w1]
            · simp [c0, w0, hll, c1, ix, ld, e9, e1, hand, hconv, hm7, hm8, hshl, hor, d1, w1]
          · rw [if_neg h128] at hg
            right
            have d1 : ((128 : Int) ≤ (c.toNat : Int)) = False := eq_false (by omega)
            by_cases hz : 0 < k ∧ c.toNat = 0
            · rw [if_pos hz] at hg
              subst hg
              have d2 : ((0 : Int) < (k : Int)) = True := eq_true (by omega)
              have d3 : ((c.toNat : Int) = 0) = True := eq_true (by omega)
              refine ⟨.exit 0 [I .i64 at_], u, ?_, (fun v hv => by cases hv), rfl, rfl⟩
              unfold f36_l1
              generalize ((c.toNat % 128 * 2 ^ (7 * k) : Nat) : Int) = SH at hshl hor
              generalize ((c.toNat % 128 : Nat) : Int) = L at hand hconv hshl
              generalize ((7 * k : Nat) : Int) = K7 at hm7 hm8 hshl
              generalize ((at_ + k : Nat) : Int) = A at w0 c1 ix
              generalize (k : Int) = K at *
              generalize (c.toNat : Int) = C at *
              rcases hcase with e9 | ⟨e9, e1⟩
              · simp [c0, w0, hll, c1, ix, ld, e9, hand, hconv, hm7, hm8, hshl, hor, d1, d2, d3]
              · simp [c0, w0, hll, c1, ix, ld, e9, e1, hand, hconv, hm7, hm8, hshl, hor, d1, d2, d3]
            · rw [if_neg hz] at hg
              subst hg
              refine ⟨.ret (.tup [.s (.int .u64 M), .s (.int .i64 ((at_ + k + 1 : Nat) : Int)), .s (.int .i64 0)]), u, ?_, (fun v hv => by cases hv), rfl, rfl⟩
              have hcase2 : ((0 : Int) < (k : Int)) = False ∨ (((0 : Int) < (k : Int)) = True ∧ ((c.toNat : Int) = 0) = False) := by
                by_cases e0 : 0 < k
                · exact .inr ⟨eq_true (by omega), eq_false (fun h => hz ⟨e0, by omega⟩)⟩
                · exact .inl (eq_false (by omega))
              unfold f36_l1
              generalize ((c.toNat % 128 * 2 ^ (7 * k) : Nat) : Int) = SH at hshl hor
              generalize ((c.toNat % 128 : Nat) : Int) = L at hand hconv hshl
              generalize ((7 * k : Nat) : Int) = K7 at hm7 hm8 hshl
              generalize ((at_ + k + 1 : Nat) : Int) = A1 at w2 ⊢
              generalize ((at_ + k : Nat) : Int) = A at w0 w2 c1 ix
              generalize (k : Int) = K at *
              generalize (c.toNat : Int) = C at *
              rcases hcase with e9 | ⟨e9, e1⟩ <;> rcases hcase2 with d2 | ⟨d2, d3⟩
              · simp [c0, w0, hll, c1, ix, ld, e9, hand, hconv, hm7, hm8, hshl, hor, d1, d2, w2, retT, allV]
              · simp [c0, w0, hll, c1, ix, ld, e9, hand, hconv, hm7, hm8, hshl, hor, d1, d2, d3, w2, retT, allV]
              · simp [c0, w0, hll, c1, ix, ld, e9, e1, hand, hconv, hm7, hm8, hshl, hor, d1, d2, w2, retT, allV]
              · simp [c0, w0, hll, c1, ix, ld, e9, e1, hand, hconv, hm7, hm8, hshl, hor, d1, d2, d3, w2, retT, allV]) 512 10 [Z x, I .i64 at_, I .u64 0, I .i64 0] s ⟨0, 0, rfl, rfl, rfl, by decide, hres⟩ (by omega)
  subst hτ
  subst hj
  exact lp

def vres (at_ len : Nat) : Option (Nat × Nat) → T
  | some (n, e) => .tup [.s (.int .u64 n), .s (.int .i64 e), .s (.int .i64 0)]
  | none => .tup [.s (.int .u64 0), .s (.int .i64 at_), .s (.int .i64 (if at_ ≤ len then 2 else 1))]

theorem vget_run (d : Nat) (h : Rd s x (U bs)) (hl : bs.length ≤ 100000) {at_ : Nat} (ha : at_ ≤ 100000) : R (d + 1) 36 [Z x, I .i64 at_] s = some (vres at_ bs.length (vget bs at_), s) := by
  rw [f36_run]
  unfold f36
  have hll := h.len
  rw [U_len] at hll
  have c0 : ¬ (at_ : Int) < 0 := by omega
  by_cases hle : at_ ≤ bs.length
  · have c1 : ¬ (bs.length : Int) < (at_ : Int) := by omega
    have lp := getN_run (R d) 512 h hl ha _ rfl
    unfold vget
    rw [if_pos hle]
    cases hg : getN bs at_ 10 0 0 with
    | none =>
      rw [hg] at lp
      simp [c0, c1, hll, lp, vjo, vres, hle, retT, allV]
    | some p =>
      obtain ⟨n, e⟩ := p
      rw [hg] at lp
      simp [c0, c1, hll, lp, vjo, vres]
  · have c1 : (bs.length : Int) < (at_ : Int) := by omega
    unfold vget
    rw [if_neg hle]
    simp [c0, c1, hll, vres, hle, retT, allV]

theorem More.step (n c : Nat) (hn : n < 4294967291) (hc : c < 256) (u : St) : (aBin .mul (I .u64 n) (I .u64 257) = some (I .u64 ((n * 257 : Nat)))) ∧ aBin .add (I .u64 ((n * 257 : Nat))) (I .u64 c) = some (I .u64 ((n * 257 + c : Nat))) ∧
    aBin .add (I .u64 ((n * 257 + c : Nat))) (I .u64 1) = some (I .u64 ((n * 257 + c + 1 : Nat))) ∧ aBin .rem (I .u64 ((n * 257 + c + 1 : Nat))) (I .u64 4294967291) = some (I .u64 (((n * 257 + c + 1) % 4294967291 : Nat))) := by
  refine ⟨?_, ?_, ?_, ?_⟩
  · rw [mul_int, show ((n : Int) * 257) = ((n * 257 : Nat) : Int) by omega, wrap64 _ (by omega)]
  · rw [add_int, show (((n * 257 : Nat) : Int) + c) = ((n * 257 + c : Nat) : Int) by omega, wrap64 _ (by omega)]
  · rw [add_int, show (((n * 257 + c : Nat) : Int) + 1) = ((n * 257 + c + 1 : Nat) : Int) by omega, wrap64 _ (by omega)]
  · have e : ((n * 257 + c + 1 : Nat) : Int).tmod 4294967291 = (((n * 257 + c + 1) % 4294967291 : Nat) : Int) := by
      rw [Int.tmod_eq_emod_of_nonneg (by omega)]
      omega
    have hP : (4294967291 : Int) ≠ 0 := by decide
    simp only [rem_int _ _ _ hP, e]

theorem sumB_lt : ∀ (bs : List UInt8) (n : Nat), n < 4294967291 → sumB n bs < 4294967291 := by
  intro bs
  induction bs with
  | nil => intro n h; exact h
  | cons c r ih => intro n h; exact ih _ (Nat.mod_lt _ (by decide))

/-- A sum of bytes. -/
theorem sum_run (d : Nat) (h : Rd s x (U bs)) (hl : bs.length ≤ 500) : R (d + 2) 28 [Z x] s = some (I .u32 (sumB 1 bs), s) := by
  have key : R (d + 1) 38 [I .u32 1, Z x] s = some (I .u32 (sumB 1 bs), s) := by
    rw [f38_run]
    unfold f38
    have hll := h.len
    rw [U_len] at hll
    obtain ⟨j, τ, lp, hj, hτ⟩ := loops_inv (f := f38_l1 (R d) 512) (fun q v u => ∃ k n : Nat, q + k = bs.length ∧ v = [I .u64 n, Z x, I .i64 bs.length, I .i64 k] ∧ u = s ∧ n < 4294967291 ∧ sumB n (bs.drop k) = sumB 1 bs)
      (fun j u => j = .exit 0 [I .u64 (sumB 1 bs)] ∧ u = s) (by
      rintro q v u ⟨k, n, hk, rfl, rfl, hn, hg⟩
      by_cases hkl : k < bs.length
      · left
        have hc : bs[k]? = some bs[k] := List.getElem?_eq_getElem hkl
        have hd : bs.drop k = bs[k] :: bs.drop (k + 1) := List.drop_eq_getElem_cons hkl
        rw [hd] at hg
        obtain ⟨p, ix, ld⟩ := h.at (n := (k : Int)) rfl hc
        have hcb : bs[k].toNat < 256 := bs[k].toNat_lt
        obtain ⟨A1, A2, A3, A4, hA4, m1, m2, m3, m4⟩ : ∃ A1 A2 A3 A4 : Int, A4 = (((n * 257 + bs[k].toNat + 1) % 4294967291 : Nat) : Int) ∧ aBin .mul (I .u64 n) (I .u64 257) = some (I .u64 A1) ∧ aBin .add (I .u64 A1) (I .u64 bs[k].toNat) = some (I .u64 A2) ∧
            aBin .add (I .u64 A2) (I .u64 1) = some (I .u64 A3) ∧ aBin .rem (I .u64 A3) (I .u64 4294967291) = some (I .u64 A4) := ⟨_, _, _, _, rfl, More.step n bs[k].toNat hn hcb u⟩
        have hw : IntKind.u64.wrap (bs[k].toNat : Int) = (bs[k].toNat : Int) := wrap64 _ (by omega)
        have w1 : IntKind.i64.wrap ((k : Int) + 1) = ((k + 1 : Nat) : Int) := by rw [wrap_in _ (by omega) (by omega)]; omega
        have c0 : ((k : Int) < (bs.length : Int)) = True := eq_true (by omega)
        refine ⟨[I .u64 (((n * 257 + bs[k].toNat + 1) % 4294967291 : Nat)), Z x, I .i64 bs.length, I .i64 ((k + 1 : Nat) : Int)], u, q - 1, ?_, by omega, k + 1, _, by omega, rfl, rfl, Nat.mod_lt _ (by decide), hg⟩
        unfold f38_l1
        generalize ((k + 1 : Nat) : Int) = K1 at w1 ⊢
        rw [← hA4]
        generalize (bs[k].toNat : Int) = C at m2 ld hw
        generalize (k : Int) = K at w1 ix c0 ⊢
        simp only [jn_normal, bd_some, List.getD_cons_zero, List.getD_cons_succ, lss_int, br_true, decide_true, c0, ix, ld, m1, m2, m3, m4, aConv_int, hw, add_int, w1]
      · right
        have hk' : k = bs.length := by omega
        have c0 : ¬ ((k : Int) < (bs.length : Int)) := by omega
        have hg' : n = sumB 1 bs := by
          rw [List.drop_eq_nil_of_le (by omega)] at hg
          exact hg
        refine ⟨.exit 0 [I .u64 (sumB 1 bs)], u, ?_, (fun v hv => by cases hv), rfl, rfl⟩
        unfold f38_l1
        rw [hg']
        simp [c0]) 512 bs.length [I .u64 1, Z x, I .i64 bs.length, I .i64 0] s ⟨0, 1, rfl, rfl, rfl, by decide, rfl⟩ (by omega)
    subst hj; subst hτ
    have hlt := sumB_lt bs 1 (by decide)
    have h32 : IntKind.u32.wrap (sumB 1 bs : Int) = (sumB 1 bs : Int) := by rw [wrap32, Nat.mod_eq_of_lt (by omega)]
    have e1 : aConv .u64 (I .u32 1) = some (I .u64 1) := rfl
    have e2 : aBin .rem (I .u64 1) (I .u64 4294967291) = some (I .u64 1) := rfl
    simp [e1, e2, hll, lp, h32]
  rw [f28_run]
  unfold f28
  simp [key]

/-- Two slices of bytes are compared. -/
theorem equal_run (d : Nat) (h : Rd s x (U bs)) (k : Rd s y (U cs)) (hl : bs.length ≤ 500) : R (d + 1) 37 [Z x, Z y] s = some (B (decide (bs = cs)), s) := by
  rw [f37_run]
  unfold f37
  have hll := h.len
  have kll := k.len
  rw [U_len] at hll kll
  by_cases hle : bs.length = cs.length
  · have e0 : ((bs.length : Int) = (cs.length : Int)) = True := eq_true (by omega)
    obtain ⟨j, τ, lp, hj, hτ⟩ := loops_inv (f := f37_l1 (R d) 512) (fun q v u => ∃ i : Nat, q + i = bs.length ∧ v = [Z x, Z y, I .i64 bs.length, I .i64 i] ∧ u = s ∧ bs.take i = cs.take i)
      (fun j u => (j = .exit 0 [] ∧ bs = cs ∨ j = .ret (B false) ∧ bs ≠ cs) ∧ u = s) (by
      rintro q v u ⟨i, hi, rfl, rfl, hg⟩
      by_cases hil : i < bs.length
      · have hb : bs[i]? = some bs[i] := List.getElem?_eq_getElem hil
        have hc : cs[i]? = some (cs[i]'(by omega)) := List.getElem?_eq_getElem (by omega)
        obtain ⟨p, ix, ld⟩ := h.at (n := (i : Int)) rfl hb
        obtain ⟨p', ix', ld'⟩ := k.at (n := (i : Int)) rfl hc
        have w1 : IntKind.i64.wrap ((i : Int) + 1) = ((i + 1 : Nat) : Int) := by rw [wrap_in _ (by omega) (by omega)]; omega
        have c0 : ((i : Int) < (bs.length : Int)) = True := eq_true (by omega)
        by_cases he : bs[i] = cs[i]'(by omega)
        · left
          refine ⟨[Z x, Z y, I .i64 bs.length, I .i64 ((i + 1 : Nat) : Int)], u, q - 1, ?_, by omega, i + 1, by omega, rfl, rfl, ?_⟩
          · unfold f37_l1
            rw [← he] at ld'
            generalize ((i + 1 : Nat) : Int) = K1 at w1 ⊢
            generalize (i : Int) = K at *
            simp [c0, ix, ix', ld, ld', w1]
          · rw [List.take_add_one, List.take_add_one, hg, hb, hc, he]
        · right
          have hne : ¬ ((bs[i].toNat : Int) = ((cs[i]'(by omega)).toNat : Int)) := fun e => he (UInt8.toNat.inj (by omega))
          refine ⟨.ret (B false), u, ?_, (fun v hv => by cases hv), .inr ⟨rfl, fun e => he (by simp [e])⟩, rfl⟩
          unfold f37_l1
          generalize (bs[i].toNat : Int) = X1 at *
          generalize ((cs[i]'(by omega)).toNat : Int) = X2 at *
          generalize (i : Int) = K at *
          simp [c0, ix, ix', ld, ld', hne]
      · right
        have c0 : ¬ ((i : Int) < (bs.length : Int)) := by omega
        refine ⟨.exit 0 [], u, ?_, (fun v hv => by cases hv), .inl ⟨rfl, ?_⟩, rfl⟩
        · unfold f37_l1
          simp [c0]
        · rwa [List.take_of_length_le (by omega), List.take_of_length_le (by omega)] at hg) 512 bs.length [Z x, Z y, I .i64 bs.length, I .i64 0] s ⟨0, rfl, rfl, rfl, by simp⟩ (by omega)
    subst hτ
    rcases hj with ⟨rfl, he⟩ | ⟨rfl, he⟩
    · subst he
      simp [hll, kll, lp]
    · simp [hll, kll, e0, lp, he]
  · have e0 : ¬ ((bs.length : Int) = (cs.length : Int)) := by omega
    have hne : bs ≠ cs := fun e => hle (by rw [e])
    simp [hll, kll, e0, hne]
end
end Go.Proofs.YtgecidicpdobfaaDoor
