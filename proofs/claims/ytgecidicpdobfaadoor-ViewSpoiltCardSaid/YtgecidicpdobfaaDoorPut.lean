/-
  A number's bytes and a grant's bytes: what the functions compute, in any store. No conditions but those named in each line.
-/
import Derived.Test.YtgecidicpdobfaaDoorByte
namespace Go.Proofs.YtgecidicpdobfaaDoor
open Go Go.Abs Go.Abs.F
set_option linter.unusedVariables false
section
variable {s t : St} {x y : S} {bs cs : List UInt8}

/-- A fresh piece of bytes is appended to bytes of our own; what was there before s0 and is not theirs stays. -/
structure Fresh (s0 s : St) (x : S) (bs : List UInt8) : Prop where
  gr : Gr s0 s
  bs : BS s x (U bs)
  own : ∀ c, own x = some c → s0.size ≤ c ∧ c < s.size

theorem Fresh.nil {s : St} (wf : s.wf) : Fresh s s .nils [] := ⟨Gr.refl wf, .inl ⟨rfl, rfl⟩, fun c hc => by cases hc⟩

theorem BS.okCap {s : St} {x : S} {l : List S} (h : BS s x l) : okCap x := by
  rcases h with ⟨rfl, _⟩ | ⟨c, r, rfl, _⟩ | ⟨c, r, rfl, _⟩ <;> first | trivial | rfl

theorem Gr.trans {a b c : St} (h : Gr a b) (k : Gr b c) : Gr a c := ⟨k.1, Nat.le_trans h.2.1 k.2.1, fun x hx => by rw [k.2.2 x (Nat.lt_of_lt_of_le hx h.2.1), h.2.2 x hx]⟩

theorem Fresh.app {s0 s : St} (h : Fresh s0 s x bs) {y : S} (hy : Rd s y (U cs)) (hl : bs.length + cs.length ≤ 100000) :
    ∃ x' t, aAppend 1 1 (Z x) (Z y) s = some (Z x', t) ∧ Fresh s0 t x' (bs ++ cs) ∧ s.size ≤ t.size ∧ ∀ b, b < s.size → Go.Proofs.YtgecidicpdobfaaDoor.own x ≠ some b → t.get b = s.get b := by
  obtain ⟨⟨wf, hz, hk⟩, hb, ho⟩ := h
  obtain ⟨x', t, e, q1, q2, q3, q4, q5⟩ := bs_append hb wf hy (by simpa using hl)
  refine ⟨x', t, e, ⟨⟨q1, by omega, fun b hb' => ?_⟩, by rw [U_append]; exact q3, fun c hc => ?_⟩, q2, q4⟩
  · rw [q4 b (by omega) (fun e => by have := ho b e; omega)]
    exact hk b hb'
  · have hlt := q3.lt q1 hc
    rcases q5 with e | e | ⟨c', e, hc'⟩
    · rw [e] at hc; cases hc
    · rw [e] at hc
      exact ⟨(ho c hc).1, hlt⟩
    · rw [e] at hc; cases hc; exact ⟨by omega, hlt⟩

theorem lit1 (s : St) (c : Nat) : aNew s (nSlice 1 (aFill [.int .u8 0] [(0, 1, I .u8 c)])) = some (Z (.sl s.size 0 1 (.known 1)), s.push (.cells true [.int .u8 c])) := by
  simp [aNew, nSlice, aFill, V.cells, setRange]

theorem lit4 (s : St) (a b c d : Nat) : aNew s (nSlice 4 (aFill [.int .u8 0, .int .u8 0, .int .u8 0, .int .u8 0] [(0, 1, I .u8 a), (1, 1, I .u8 b), (2, 1, I .u8 c), (3, 1, I .u8 d)])) =
    some (Z (.sl s.size 0 4 (.known 4)), s.push (.cells true [.int .u8 a, .int .u8 b, .int .u8 c, .int .u8 d])) := by
  simp [aNew, nSlice, aFill, V.cells, setRange]

/-- Literal bytes are appended. -/
theorem Fresh.lit {s0 s : St} (h : Fresh s0 s x bs) (hl : bs.length + cs.length ≤ 100000) :
    ∃ x' t, aAppend 1 1 (Z x) (Z (.sl s.size 0 cs.length (.known cs.length))) (s.push (.cells true (U cs))) = some (Z x', t) ∧ Fresh s0 t x' (bs ++ cs) ∧ s.size ≤ t.size ∧ ∀ b, b < s.size → Go.Proofs.YtgecidicpdobfaaDoor.own x ≠ some b → t.get b = s.get b := by
  have g : Gr s (s.push (.cells true (U cs))) := Gr.push h.gr.1 _
  have h1 : Fresh s0 (s.push (.cells true (U cs))) x bs := ⟨h.gr.trans g, h.bs.keep fun c hc => g.2.2 c (h.own c hc).2, fun c hc => ⟨(h.own c hc).1, Nat.lt_of_lt_of_le (h.own c hc).2 g.2.1⟩⟩
  obtain ⟨x', t, e, f, hz, k⟩ := h1.app (cs := cs) (y := .sl s.size 0 cs.length (.known cs.length)) (.inr ⟨s.size, 0, .known cs.length, true, U cs, by rw [U_len], St.get_push_same _ _, by simp, by rw [List.drop_zero]; exact List.take_of_length_le (Nat.le_refl _)⟩) hl
  exact ⟨x', t, e, f, Nat.le_trans g.2.1 hz, fun b hb hb1 => by rw [k b (Nat.lt_of_lt_of_le hb g.2.1) hb1]; exact g.2.2 b hb⟩

theorem putN_len : ∀ (f n : Nat), (putN f n).length ≤ f + 1 := by
  intro f
  induction f with
  | zero => intro n; simp [putN]
  | succ f ih =>
    intro n
    unfold putN
    split
    · have := ih (n / 128)
      simp
      omega
    · simp

theorem vput_len (n : Nat) : (vput n).length ≤ 11 := putN_len 10 n
theorem putG_len (v s : Nat) : (putG v s).length ≤ 26 := by
  have := vput_len v
  have := vput_len s
  simp [putG, four]
  omega

theorem or128 : ∀ m : Nat, m < 256 → (m ||| 128) = m % 128 + 128 := by decide +kernel

theorem byte_nat (n : Nat) : (UInt8.ofNat n).toNat = n % 256 := by simp

theorem vput_loop (r : CallF) (wf : s.wf) (n : Nat) (hn : n < 2 ^ 64) : ∃ (m : Nat) (x : S) (acc : List UInt8) (τ : St), loops (f27_l1 r 512) 512 [I .u64 n, Z .nils] s = some (.exit 0 [I .u64 m, Z x], τ) ∧ Fresh s τ x acc ∧ m < 128 ∧ acc ++ [UInt8.ofNat m] = vput n ∧ acc.length ≤ 10 := by
  obtain ⟨j, τ, lp, m, x, acc, rfl, hF, hm, hacc⟩ := loops_inv (f := f27_l1 r 512) (fun q v u => ∃ (m : Nat) (x : S) (acc : List UInt8), v = [I .u64 m, Z x] ∧ Fresh s u x acc ∧ m < 2 ^ (64 - 7 * (10 - q)) ∧ q ≤ 10 ∧ acc.length = 10 - q ∧ acc ++ putN q m = vput n)
      (fun j u => ∃ (m : Nat) (x : S) (acc : List UInt8), j = .exit 0 [I .u64 m, Z x] ∧ Fresh s u x acc ∧ m < 128 ∧ acc ++ [UInt8.ofNat m] = vput n ∧ acc.length ≤ 10) (by
    rintro q v u ⟨m, x, acc, rfl, hF, hm, hq, hal, hacc⟩
    have hm64 : m < 2 ^ 64 := Nat.lt_of_lt_of_le hm (Nat.pow_le_pow_right (by omega) (by omega))
    by_cases h128 : 128 ≤ m
    · cases q with
      | zero =>
        exfalso
        have : 64 - 7 * (10 - 0) = 0 := by decide
        rw [this] at hm
        omega
      | succ q =>
        left
        have hor : aBin .or (I .u8 ((m % 256 : Nat))) (I .u8 128) = some (I .u8 ((UInt8.ofNat (m % 128 + 128)).toNat)) := by
          have h1 := or_u8 (m % 256) 128 (by omega) (by omega)
          rw [or128 _ (by omega)] at h1
          have e1 : (UInt8.ofNat (m % 128 + 128)).toNat = m % 256 % 128 + 128 := by rw [byte_nat]; omega
          rw [e1]
          exact h1
        have hw := wrap8 m
        have hshr : aBin .shr (I .u64 m) (I .u64 7) = some (I .u64 ((m / 2 ^ 7 : Nat))) := shr_nat .u64 m 7 (by decide)
        have c0 : ((128 : Int) ≤ (m : Int)) = True := eq_true (by omega)
        have nw := lit1 u (UInt8.ofNat (m % 128 + 128)).toNat
        obtain ⟨x', t, ap, hF', hz, _⟩ := hF.lit (cs := [UInt8.ofNat (m % 128 + 128)]) (by simp; omega)
        unfold putN at hacc
        rw [if_pos h128] at hacc
        refine ⟨[I .u64 ((m / 2 ^ 7 : Nat)), Z x'], t, q, ?_, rfl, m / 2 ^ 7, x', acc ++ [UInt8.ofNat (m % 128 + 128)], rfl, hF', ?_, by omega, by simp; omega, by rw [List.append_assoc]; exact hacc⟩
        · unfold f27_l1
          simp only [U, List.map_cons, List.map_nil, List.length_cons, List.length_nil, Nat.zero_add] at ap
          generalize ((m / 2 ^ 7 : Nat) : Int) = M7 at hshr ⊢
          generalize ((m % 256 : Nat) : Int) = M8 at hw hor
          generalize ((UInt8.ofNat (m % 128 + 128)).toNat : Int) = B8 at hor nw ap
          generalize (m : Int) = M at *
          simp [c0, hw, hor, nw, ap, hshr]
        · have hq0 : q ≠ 0 := fun e => by
            subst e
            have : 64 - 7 * (10 - (0 + 1)) = 1 := by decide
            rw [this] at hm
            omega
          have h2 : (2 : Nat) ^ (64 - 7 * (10 - (q + 1))) = 2 ^ (64 - 7 * (10 - q)) * 2 ^ 7 := by
            rw [← Nat.pow_add]
            congr 1
            omega
          rw [h2] at hm
          exact Nat.div_lt_of_lt_mul (by rw [Nat.mul_comm]; exact hm)
    · right
      have c0 : ((128 : Int) ≤ (m : Int)) = False := eq_false (by omega)
      refine ⟨.exit 0 [I .u64 m, Z x], u, ?_, (fun v hv => by cases hv), m, x, acc, rfl, hF, by omega, ?_, by omega⟩
      · unfold f27_l1
        simp [c0]
      · rw [← hacc]
        cases q with
        | zero => rfl
        | succ q => unfold putN; rw [if_neg h128]) 512 10 [I .u64 n, Z .nils] s ⟨n, .nils, [], rfl, Fresh.nil wf, hn, by omega, rfl, rfl⟩ (by omega)
  exact ⟨m, x, acc, τ, lp, hF, hm, hacc⟩

/-- A number's bytes. -/
theorem vput_run (d : Nat) (wf : s.wf) (n : Nat) (hn : n < 2 ^ 64) : ∃ x t, R (d + 1) 27 [I .u64 n] s = some (Z x, t) ∧ Fresh s t x (vput n) := by
  rw [f27_run]
  unfold f27
  obtain ⟨m, x, acc, τ, lp, hF, hm, hacc⟩ := vput_loop (R d) wf n hn
  have nw := lit1 τ m
  have hb : (UInt8.ofNat m).toNat = m := by rw [byte_nat]; omega
  obtain ⟨x', t, ap, hF', _⟩ := hF.lit (cs := [UInt8.ofNat m]) (by simp; omega)
  rw [hacc.1] at hF'
  refine ⟨x', t, ?_, hF'⟩
  have hw : IntKind.u8.wrap (m : Int) = (m : Int) := by rw [wrap8]; omega
  simp only [U, List.map_cons, List.map_nil, List.length_cons, List.length_nil, Nat.zero_add, hb] at ap
  simp [lp, hw, nw, ap]
end
end Go.Proofs.YtgecidicpdobfaaDoor
