/-
  Grants that were written are read. No conditions but those named in each line.
-/
import Derived.Test.YtgecidicpdobfaaDoorAsk
namespace Go.Proofs.YtgecidicpdobfaaDoor
open Go Go.Abs Go.Abs.F
set_option linter.unusedVariables false

/-- Grants as an arbiter gives them: one by one, in turn. -/
structure Good (gs : List (Nat × Nat)) : Prop where
  at_ : ∀ (j : Nat) (g : Nat × Nat), gs[j]? = some g → g.1 = j + 1 ∧ g.2 < 2
  turn : ∀ (j : Nat) (g h : Nat × Nat), gs[j]? = some g → gs[j + 1]? = some h → h.2 ≠ g.2

theorem Good.nil : Good [] := ⟨fun j g h => by simp at h, fun j g h e => by simp at e⟩

theorem Good.last {gs : List (Nat × Nat)} (h : Good gs) : (lastG gs).1 = gs.length ∧ ((lastG gs).2 = -1 ∧ gs = [] ∨ ∃ n : Nat, n < 2 ∧ (lastG gs).2 = n ∧ ∃ v, gs[gs.length - 1]? = some (v, n)) := by
  by_cases hz : gs = []
  · subst hz
    exact ⟨rfl, .inl ⟨rfl, rfl⟩⟩
  · have hpos : 0 < gs.length := by cases gs with | nil => exact absurd rfl hz | cons _ _ => simp
    obtain ⟨g, hg⟩ : ∃ g, gs[gs.length - 1]? = some g := ⟨_, List.getElem?_eq_getElem (by omega)⟩
    have := h.at_ _ _ hg
    rw [lastG_at hg]
    exact ⟨by simp only; omega, .inr ⟨g.2, this.2, rfl, g.1, hg⟩⟩

theorem Good.more {gs : List (Nat × Nat)} (h : Good gs) {n : Nat} (hn : n < 2) (hl : (lastG gs).2 ≠ n) : Good (gs ++ [(gs.length + 1, n)]) := by
  refine ⟨fun j g hg => ?_, fun j g k hg hk => ?_⟩
  · by_cases hj : j < gs.length
    · rw [List.getElem?_append_left hj] at hg
      exact h.at_ j g hg
    · rw [List.getElem?_append_right (by omega)] at hg
      have : j - gs.length = 0 := by
        have := (List.getElem?_eq_some_iff.1 hg).1
        simp at this
        omega
      rw [this] at hg
      simp at hg
      subst hg
      exact ⟨by simp only; omega, hn⟩
  · by_cases hj : j + 1 < gs.length
    · rw [List.getElem?_append_left hj] at hk
      rw [List.getElem?_append_left (by omega)] at hg
      exact h.turn j g k hg hk
    · have hlt := (List.getElem?_eq_some_iff.1 hk).1
      simp at hlt
      have hje : j + 1 = gs.length := by omega
      rw [List.getElem?_append_left (by omega)] at hg
      rw [List.getElem?_append_right (by omega), hje, Nat.sub_self] at hk
      simp at hk
      subst hk
      have hg' : gs[gs.length - 1]? = some g := by rw [← hje]; simpa using hg
      rw [lastG_at hg'] at hl
      intro e
      apply hl
      simp only at e ⊢
      rw [e]

theorem vput_small {v : Nat} (h : v < 128) : vput v = [UInt8.ofNat v] := by
  show (if 128 ≤ v then _ else [UInt8.ofNat v]) = _
  rw [if_neg (by omega)]

theorem putG_small {v n : Nat} (h : v < 128) (h2 : n < 2) : putG v n = UInt8.ofNat v :: UInt8.ofNat n :: four (sumB 1 [UInt8.ofNat v, UInt8.ofNat n]) := by
  unfold putG
  rw [vput_small h, vput_small (by omega)]
  rfl
theorem putG_len6 {v n : Nat} (h : v < 128) (h2 : n < 2) : (putG v n).length = 6 := by
  rw [putG_small h h2]
  rfl

theorem vget_small {bs : List UInt8} {at_ : Nat} {c : UInt8} (hc : bs[at_]? = some c) (h : c.toNat < 128) : vget bs at_ = some (c.toNat, at_ + 1) := by
  have hlt := (List.getElem?_eq_some_iff.1 hc).1
  unfold vget
  rw [if_pos (by omega)]
  unfold getN
  rw [Nat.add_zero, hc]
  simp only [Nat.reduceMul, Nat.pow_zero, Nat.mul_one, Nat.zero_or]
  rw [if_neg (by omega), if_neg (by omega), if_neg (by omega), Nat.mod_eq_of_lt h]

theorem oneP_pre (pre rest : List UInt8) {v n : Nat} (h1 : 1 ≤ v) (h2 : v < 128) (h3 : n < 2) : oneP (pre ++ (putG v n ++ rest)) pre.length = some (v, n, pre.length + 6) := by
  have hv : (UInt8.ofNat v).toNat = v := by rw [byte_nat]; omega
  have hn : (UInt8.ofNat n).toNat = n := by rw [byte_nat]; omega
  have hp := putG_small h2 h3
  have e1 : (pre ++ (putG v n ++ rest))[pre.length]? = some (UInt8.ofNat v) := by
    rw [List.getElem?_append_right (Nat.le_refl _), Nat.sub_self, hp]
    rfl
  have e2 : (pre ++ (putG v n ++ rest))[pre.length + 1]? = some (UInt8.ofNat n) := by
    rw [List.getElem?_append_right (by omega), Nat.add_sub_cancel_left, hp]
    rfl
  have q1 := vget_small e1 (by omega)
  have q2 := vget_small e2 (by omega)
  rw [hv] at q1
  rw [hn] at q2
  have hl := putG_len6 h2 h3
  unfold oneP
  rw [q1]
  dsimp only
  rw [q2]
  dsimp only
  rw [if_neg (by rw [List.length_append, List.length_append]; omega), if_pos]
  rw [List.drop_append_of_le_length (Nat.le_refl _), List.drop_length, List.nil_append, show pre.length + 1 + 1 + 4 - pre.length = (putG v n).length by omega, List.take_append_of_le_length (Nat.le_refl _), List.take_length]

theorem oneP_end (bs : List UInt8) : oneP bs bs.length = none := by
  unfold oneP
  have : vget bs bs.length = none := by
    unfold vget
    rw [if_pos (Nat.le_refl _)]
    unfold getN
    have : bs[bs.length + 0]? = none := by simp
    rw [this]
  rw [this]

theorem getL_pre : ∀ (rest : List (Nat × Nat)) (pre tail : List UInt8) (f base last : Nat) (acc : List (Nat × Nat)), (∀ (j : Nat) (g : Nat × Nat), rest[j]? = some g → g.1 = base + j + 1 ∧ g.2 < 2) → last ≤ base → base + rest.length < 128 →
    ∃ last', last' ≤ base + rest.length ∧ getL (pre ++ (enc rest ++ tail)) (f + rest.length) pre.length last acc = getL (pre ++ (enc rest ++ tail)) f (pre.length + 6 * rest.length) last' (acc ++ rest) := by
  intro rest
  induction rest with
  | nil => intro pre tail f base last acc _ h _; exact ⟨last, by simpa using h, by simp⟩
  | cons g r ih =>
    intro pre tail f base last acc hg hl hb
    have h0 := hg 0 g rfl
    simp at hb
    have hone := oneP_pre pre (enc r ++ tail) (v := g.1) (n := g.2) (by omega) (by omega) h0.2
    have hbs : pre ++ (enc (g :: r) ++ tail) = pre ++ (putG g.1 g.2 ++ (enc r ++ tail)) := by simp [enc, List.append_assoc]
    have hlen := putG_len6 (v := g.1) (n := g.2) (by omega) h0.2
    obtain ⟨last', h1, h2⟩ := ih (pre ++ putG g.1 g.2) tail f (base + 1) g.1 (acc ++ [g]) (fun j k hk => by
      have := hg (j + 1) k (by simpa using hk)
      omega) (by omega) (by omega)
    refine ⟨last', by simp; omega, ?_⟩
    rw [hbs, List.length_cons, show f + (r.length + 1) = (f + r.length) + 1 by omega]
    conv => lhs; unfold getL
    rw [hone]
    dsimp only
    rw [if_neg (by omega)]
    have e1 : (pre ++ putG g.1 g.2).length = pre.length + 6 := by rw [List.length_append, hlen]
    rw [e1, List.append_assoc] at h2
    rw [h2]
    congr 1
    · omega
    · simp

theorem enc_len {gs : List (Nat × Nat)} (h : ∀ g ∈ gs, g.1 < 128 ∧ g.2 < 2) : (enc gs).length = 6 * gs.length := by
  induction gs with
  | nil => rfl
  | cons g r ih =>
    have h0 := h g List.mem_cons_self
    rw [enc, List.length_append, putG_len6 h0.1 h0.2, ih fun k hk => h k (List.mem_cons_of_mem _ hk), List.length_cons]
    omega

theorem Good.enc_len {gs : List (Nat × Nat)} (h : Good gs) (hl : gs.length < 127) : (enc gs).length = 6 * gs.length := by
  apply Go.Proofs.YtgecidicpdobfaaDoor.enc_len
  intro g hg
  obtain ⟨j, hj⟩ := List.getElem?_of_mem hg
  have := h.at_ j g hj
  have := (List.getElem?_eq_some_iff.1 hj).1
  omega

theorem Good.parse {gs : List (Nat × Nat)} (h : Good gs) (hl : gs.length < 127) : getP (enc gs) = (gs, (enc gs).length) := by
  have he := h.enc_len hl
  obtain ⟨last, _, e⟩ := getL_pre gs [] [] ((enc gs).length + 1 - gs.length) 0 0 [] (fun j g hg => by have := h.at_ j g hg; omega) (Nat.le_refl _) (by omega)
  rw [List.append_nil, List.nil_append, List.nil_append, List.length_nil, Nat.zero_add, show (enc gs).length + 1 - gs.length + gs.length = (enc gs).length + 1 by omega] at e
  unfold getP
  rw [e, show (enc gs).length + 1 - gs.length = ((enc gs).length - gs.length) + 1 by omega]
  unfold getL
  rw [← he, oneP_end]
end Go.Proofs.YtgecidicpdobfaaDoor
