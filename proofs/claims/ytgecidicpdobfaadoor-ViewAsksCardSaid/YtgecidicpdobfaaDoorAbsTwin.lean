/-
  Two runs of one text that differ in their first temporary alone.
-/
import Derived.Test.YtgecidicpdobfaaDoorAbsLoop
namespace Go.Abs.F
open Go Go.Abs

section
variable {X Y : T}

inductive Tw (X Y : T) : Option (JO × St) → Option (JO × St) → Prop
  | norm (l : List T) (s : St) : Tw X Y (some (.normal (X :: l), s)) (some (.normal (Y :: l), s))
  | exit (i : Nat) (l : List T) (s : St) : Tw X Y (some (.exit i (X :: l), s)) (some (.exit i (Y :: l), s))
  | same (x : Option (JO × St)) : Tw X Y x x

theorem tw_bd {α : Type} {x y : Option α} {K L : α → Option (JO × St)} (h : x = y) (hk : ∀ t, Tw X Y (K t) (L t)) : Tw X Y (bd x K) (bd y L) := by
  subst h
  cases x with
  | none => exact .same _
  | some a => exact hk a

theorem tw_bd2 {x y : Option (T × St)} {K L : T → St → Option (JO × St)} (h : x = y) (hk : ∀ t s, Tw X Y (K t s) (L t s)) : Tw X Y (bd2 x K) (bd2 y L) := by
  subst h
  cases x with
  | none => exact .same _
  | some a => exact hk a.1 a.2

theorem tw_br {t : T} {a b c d : Option (JO × St)} (h : Tw X Y a c) (k : Tw X Y b d) : Tw X Y (br t a b) (br t c d) := by
  unfold br
  cases asB t with
  | none => exact .same _
  | some v => cases v with
    | false => exact k
    | true => exact h

theorem tw_ite {p : Prop} [Decidable p] {a b c d : Option (JO × St)} (h : Tw X Y a c) (k : Tw X Y b d) : Tw X Y (if p then a else b) (if p then c else d) := by
  by_cases hp : p
  · simpa [hp] using h
  · simpa [hp] using k

theorem tw_jn {x y : Option (JO × St)} {f : List T → St → Option (JO × St)} {g : Nat → List T → St → Option (JO × St)} {h : T → St → Option (JO × St)} (hx : Tw X Y x y)
    (hf : ∀ l s, Tw X Y (f (X :: l) s) (f (Y :: l) s)) (hg : ∀ i l s, Tw X Y (g i (X :: l) s) (g i (Y :: l) s)) : Tw X Y (jn x f g h) (jn y f g h) := by
  cases hx with
  | norm l s => exact hf l s
  | exit i l s => exact hg i l s
  | same => exact .same _

theorem tw_loops {f : List T → St → Option (JO × St)} (hf : ∀ l s, Tw X Y (f (X :: l) s) (f (Y :: l) s)) : ∀ (N : Nat) (l : List T) (s : St), Tw X Y (loops f N (X :: l) s) (loops f N (Y :: l) s) := by
  intro N
  induction N with
  | zero => intro l s; exact .same _
  | succ N ih =>
    intro l s
    simp only [loops]
    have h := hf l s
    generalize f (X :: l) s = x at h
    generalize f (Y :: l) s = y at h
    cases h with
    | norm l s => exact ih l s
    | exit i l s => exact .exit i l s
    | same => exact .same _

theorem eq_bd {α : Type} {x y : Option α} {K L : α → Option (T × St)} (h : x = y) (hk : ∀ t, K t = L t) : bd x K = bd y L := by
  subst h
  cases x with
  | none => rfl
  | some a => exact hk a

theorem eq_bd2 {x y : Option (T × St)} {K L : T → St → Option (T × St)} (h : x = y) (hk : ∀ t s, K t s = L t s) : bd2 x K = bd2 y L := by
  subst h
  cases x with
  | none => rfl
  | some a => exact hk a.1 a.2

theorem eq_br {t : T} {a b c d : Option (T × St)} (h : a = c) (k : b = d) : br t a b = br t c d := by rw [h, k]

theorem eq_ite {p : Prop} [Decidable p] {a b c d : Option (T × St)} (h : a = c) (k : b = d) : (if p then a else b) = (if p then c else d) := by rw [h, k]

theorem eq_jn {x y : Option (JO × St)} {f : List T → St → Option (T × St)} {g : Nat → List T → St → Option (T × St)} {h : T → St → Option (T × St)} (hx : Tw X Y x y)
    (hf : ∀ l s, f (X :: l) s = f (Y :: l) s) (hg : ∀ i l s, g i (X :: l) s = g i (Y :: l) s) : jn x f g h = jn y f g h := by
  cases hx with
  | norm l s => exact hf l s
  | exit i l s => exact hg i l s
  | same => rfl

theorem getD0 (a : T) (l : List T) : (a :: l).getD 0 .any = a := rfl
theorem getDs (a : T) (l : List T) (n : Nat) : (a :: l).getD (n + 1) .any = l.getD n .any := rfl

theorem gT_eq {g : Option Bool} {x y : Option T} (h : x = y) : gT g x = gT g y := by rw [h]

theorem eq_gT {g : Option Bool} {K L : T → Option (T × St)} (h0 : K tt = L tt) (h : K X = L Y) : bd (gT g (some X)) K = bd (gT g (some Y)) L := by
  cases g with
  | none => rfl
  | some b => cases b with
    | false => exact h0
    | true => exact h

theorem tw_gT {g : Option Bool} {K L : T → Option (JO × St)} (h0 : Tw X Y (K tt) (L tt)) (h : Tw X Y (K X) (L Y)) : Tw X Y (bd (gT g (some X)) K) (bd (gT g (some Y)) L) := by
  cases g with
  | none => exact .same _
  | some b => cases b with
    | false => exact h0
    | true => exact h

theorem gave_of {P : Program} {N : Nat} {prim : CallF} {d : Nat} {f : FuncId} {args args' : List T} {σ : St} {b : Bool} (h : runQ P N prim d f args σ = runQ P N prim d f args' σ) (k : gave b (runQ P N prim d f args' σ) = true) :
    ∃ τ, runQ P N prim d f args σ = some (B b, τ) := by
  rw [h]
  exact gave_some k
end
end Go.Abs.F
namespace Go.Abs.F
open Go Go.Abs

theorem nat_and_low (x c n : Nat) (h : (2 ^ n - 1) &&& c = c) : x &&& c = (x % 2 ^ n) &&& c := by
  rw [← Nat.and_two_pow_sub_one_eq_mod, Nat.and_assoc, h]

/-- A mask's low bits are its remainder's. -/
theorem and_low (a : Int) (c n : Nat) (hn : n ≤ 64) (h : (2 ^ n - 1) &&& c = c) : aBin .and (I .i64 a) (I .i64 c) = aBin .and (I .i64 (a % 2 ^ n)) (I .i64 c) := by
  have key : (BitVec.ofInt 64 a &&& BitVec.ofInt 64 (c : Int)) = (BitVec.ofInt 64 (a % 2 ^ n) &&& BitVec.ofInt 64 (c : Int)) := by
    apply BitVec.eq_of_toNat_eq
    rw [BitVec.toNat_and, BitVec.toNat_and]
    have hc : c < 2 ^ n := by
      rw [← h]
      refine Nat.lt_of_le_of_lt Nat.and_le_left ?_
      have := Nat.two_pow_pos n
      omega
    have hp : (2 : Nat) ^ n ≤ 2 ^ 64 := Nat.pow_le_pow_right (by omega) hn
    have e2 : (BitVec.ofInt 64 (c : Int)).toNat = c := by
      rw [BitVec.toNat_ofInt]
      have : ((c : Int) % ((2 ^ 64 : Nat) : Int)) = c := Int.emod_eq_of_lt (by omega) (by omega)
      rw [this]
      rfl
    rw [e2, nat_and_low _ c n h, nat_and_low (BitVec.ofInt 64 (a % 2 ^ n)).toNat c n h]
    congr 1
    rw [BitVec.toNat_ofInt, BitVec.toNat_ofInt]
    have h2 : (2 : Int) ^ n = ((2 ^ n : Nat) : Int) := by norm_cast
    have h3 : ((2 ^ n : Nat) : Int) ∣ ((2 ^ 64 : Nat) : Int) := by
      rw [Int.natCast_dvd_natCast]
      exact Nat.pow_dvd_pow 2 hn
    have p0 := Nat.two_pow_pos n
    have p1 := Nat.two_pow_pos 64
    have q0 := Int.emod_nonneg a (show ((2 ^ 64 : Nat) : Int) ≠ 0 by omega)
    have q1 := Int.emod_nonneg a (show ((2 ^ n : Nat) : Int) ≠ 0 by omega)
    have q2 := Int.emod_lt_of_pos a (show (0 : Int) < ((2 ^ n : Nat) : Int) by omega)
    rw [h2]
    apply Int.ofNat_inj.1
    rw [Int.natCast_emod, Int.natCast_emod, Int.toNat_of_nonneg q0, Int.toNat_of_nonneg (Int.emod_nonneg _ (by omega)), Int.emod_emod_of_dvd _ h3, Int.emod_emod_of_dvd _ h3, Int.emod_emod]
  show some (I .i64 (IntKind.i64.wrap _)) = some (I .i64 (IntKind.i64.wrap _))
  rw [show IntKind.i64.bits = 64 from rfl, key]
end Go.Abs.F
namespace Go.Abs.F
open Go Go.Abs

theorem wrap_in (y : Int) (h0 : -2 ^ 63 ≤ y) (h1 : y < 2 ^ 63) : IntKind.i64.wrap y = y := by
  unfold IntKind.wrap
  simp [IntKind.signed, IntKind.bits]
  omega

theorem wrap_u64 (x : Int) : 0 ≤ IntKind.u64.wrap x := by
  unfold IntKind.wrap
  simp [IntKind.signed, IntKind.bits]
  omega

theorem wrap_u64_in (x : Int) (h0 : 0 ≤ x) (h1 : x < 2 ^ 64) : IntKind.u64.wrap x = x := by
  unfold IntKind.wrap
  simp [IntKind.signed, IntKind.bits]
  omega

/-- A number's remainder, as the laws make it. -/
theorem mod_u (x m : Int) (hm : 0 < m) (hm' : m ≤ 2 ^ 63) : ∃ y, 0 ≤ y ∧ y < m ∧ aBin .rem (I .u64 (IntKind.u64.wrap x)) (I .u64 m) = some (I .u64 y) ∧ IntKind.i64.wrap y = y ∧ aBin .rem (I .u64 (IntKind.u64.wrap y)) (I .u64 m) = some (I .u64 y) := by
  have hw := wrap_u64 x
  have a := Int.tmod_nonneg m hw
  have b := Int.tmod_lt_of_pos (IntKind.u64.wrap x) hm
  refine ⟨(IntKind.u64.wrap x).tmod m, a, b, rem_int _ _ _ (by omega), wrap_in _ (by omega) (by omega), ?_⟩
  rw [wrap_u64_in _ a (by omega), rem_int _ _ _ (by omega), Int.tmod_eq_of_lt a b]

theorem nat_of {m : Int} {n : Nat} (h0 : 0 ≤ m) (h1 : m < n) : ∃ k : Nat, k < n ∧ m = k := ⟨m.toNat, by omega, by omega⟩
end Go.Abs.F
namespace Go.Abs.F
open Go Go.Abs
section
variable {Q Q' : List T → Prop} {X Y : T}

/-- As Tw, with a relation on the other temporaries. -/
inductive TwQ (Q : List T → Prop) (X Y : T) : Option (JO × St) → Option (JO × St) → Prop
  | norm (l : List T) (s : St) (h : Q l) : TwQ Q X Y (some (.normal (X :: l), s)) (some (.normal (Y :: l), s))
  | same (x : Option (JO × St)) : TwQ Q X Y x x

theorem twq_bd {α : Type} {x : Option α} {K L : α → Option (JO × St)} (hk : ∀ t, TwQ Q X Y (K t) (L t)) : TwQ Q X Y (bd x K) (bd x L) := by
  cases x with
  | none => exact .same _
  | some a => exact hk a

theorem twq_bd2 {x : Option (T × St)} {K L : T → St → Option (JO × St)} (hk : ∀ t s, TwQ Q X Y (K t s) (L t s)) : TwQ Q X Y (bd2 x K) (bd2 x L) := by
  cases x with
  | none => exact .same _
  | some a => exact hk a.1 a.2

theorem twq_br {t : T} {a b c d : Option (JO × St)} (h : TwQ Q X Y a c) (k : TwQ Q X Y b d) : TwQ Q X Y (br t a b) (br t c d) := by
  unfold br
  cases asB t with
  | none => exact .same _
  | some v => cases v with
    | false => exact k
    | true => exact h

theorem twq_ite {p : Prop} [Decidable p] {a b c d : Option (JO × St)} (h : TwQ Q X Y a c) (k : TwQ Q X Y b d) : TwQ Q X Y (if p then a else b) (if p then c else d) := by
  by_cases hp : p
  · simpa [hp] using h
  · simpa [hp] using k

theorem twq_jn {x y : Option (JO × St)} {f : List T → St → Option (JO × St)} {g : Nat → List T → St → Option (JO × St)} {h : T → St → Option (JO × St)} (hx : TwQ Q' X Y x y)
    (hf : ∀ l s, Q' l → TwQ Q X Y (f (X :: l) s) (f (Y :: l) s)) : TwQ Q X Y (jn x f g h) (jn y f g h) := by
  cases hx with
  | norm l s hl => exact hf l s hl
  | same => exact .same _

/-- A loop whose rounds count: they end alike, without the first temporary. -/
theorem twq_loops {f : List T → St → Option (JO × St)} (In : Nat → List T → Prop) (hf : ∀ k l s, In k l → (∃ l' s' k', f (X :: l) s = some (.normal (X :: l'), s') ∧ f (Y :: l) s = some (.normal (Y :: l'), s') ∧ In k' l') ∨ f (X :: l) s = f (Y :: l) s) :
    ∀ (N k : Nat) (l : List T) (s : St), In k l → loops f N (X :: l) s = loops f N (Y :: l) s := by
  intro N
  induction N with
  | zero => intro k l s _; rfl
  | succ N ih =>
    intro k l s hi
    simp only [loops]
    rcases hf k l s hi with ⟨l', s', k', h1, h2, h3⟩ | h
    · rw [h1, h2]
      exact ih k' l' s' h3
    · rw [h]
end

/-- A bit of a mask is the same bit of its remainder. -/
theorem bit_low (a m : Int) (i : Nat) (hi : i < 63) (he : (a.fdiv (2 ^ i)) % 2 = (m.fdiv (2 ^ i)) % 2) : ∃ x y b, aBin .shr (I .i64 a) (I .u64 i) = some (I .i64 x) ∧ aBin .shr (I .i64 m) (I .u64 i) = some (I .i64 y) ∧
    aBin .and (I .i64 x) (I .i64 1) = some b ∧ aBin .and (I .i64 y) (I .i64 1) = some b := by
  have e1 : ∀ z : Int, aBin .shr (I .i64 z) (I .u64 i) = some (I .i64 (z.fdiv (2 ^ i))) := by
    intro z
    have : min i 64 = i := by omega
    simp [aBin, aShift, IntKind.bits, this]
  have e2 : ∀ z : Int, aBin .and (I .i64 z) (I .i64 1) = aBin .and (I .i64 (z % 2)) (I .i64 1) := fun z => and_low z 1 1 (by omega) rfl
  refine ⟨_, _, _, e1 a, e1 m, rfl, ?_⟩
  rw [e2, ← he, ← e2]
  rfl
end Go.Abs.F
