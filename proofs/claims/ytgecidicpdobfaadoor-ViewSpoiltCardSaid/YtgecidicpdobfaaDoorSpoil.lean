/-
  A changed byte in the bytes of grants: what is read is what stands ahead of it. No conditions but those named in each line.
-/
import Derived.Test.YtgecidicpdobfaaDoorLaw
namespace Go.Proofs.YtgecidicpdobfaaDoor
open Go Go.Abs Go.Abs.F
set_option linter.unusedVariables false

theorem getL_acc (bs : List UInt8) : ∀ (f at_ last : Nat) (acc : List (Nat × Nat)), ∃ more, (getL bs f at_ last acc).1 = acc ++ more := by
  intro f
  induction f with
  | zero => intro a l acc; exact ⟨[], by simp [getL]⟩
  | succ f ih =>
    intro a l acc
    unfold getL
    split
    · exact ⟨[], by simp⟩
    · rename_i v n e he
      split
      · exact ⟨[], by simp⟩
      · obtain ⟨more, h⟩ := ih e v (acc ++ [(v, n)])
        exact ⟨(v, n) :: more, by rw [h]; simp⟩

theorem getN_big {bs : List UInt8} {at_ : Nat} : ∀ (f k n : Nat) {r : Nat × Nat}, 1 ≤ k → getN bs at_ f k n = some r → 128 ≤ r.1 := by
  intro f
  induction f with
  | zero => intro k n r _ h; cases h
  | succ f ih =>
    intro k n r hk h
    unfold getN at h
    split at h
    · cases h
    · rename_i c hc
      split at h
      · cases h
      · split at h
        · exact ih _ _ (by omega) h
        · split at h
          · cases h
          · rename_i h1 h2
            cases h
            have hcb := c.toNat_lt
            have h3 : c.toNat % 128 = c.toNat := Nat.mod_eq_of_lt (by omega)
            have h4 : c.toNat ≠ 0 := fun e => h2 ⟨by omega, e⟩
            have h5 : 2 ^ 7 ≤ 2 ^ (7 * k) := Nat.pow_le_pow_right (by omega) (by omega)
            have h6 : 1 * 2 ^ (7 * k) ≤ c.toNat % 128 * 2 ^ (7 * k) := Nat.mul_le_mul_right _ (by omega)
            have h7 : c.toNat % 128 * 2 ^ (7 * k) ≤ n ||| c.toNat % 128 * 2 ^ (7 * k) := Nat.right_le_or
            show 128 ≤ n ||| c.toNat % 128 * 2 ^ (7 * k)
            omega

theorem vget_big {bs : List UInt8} {at_ : Nat} {c : UInt8} (hc : bs[at_]? = some c) (h : 128 ≤ c.toNat) {m e : Nat} (hv : vget bs at_ = some (m, e)) : 128 ≤ m := by
  unfold vget at hv
  split at hv
  · unfold getN at hv
    rw [Nat.add_zero, hc] at hv
    simp only at hv
    rw [if_neg (by omega), if_pos h] at hv
    exact getN_big _ _ _ (Nat.le_refl _) hv
  · cases hv

theorem four_differ : ∀ v : Nat, v < 128 → four (sumB 1 [UInt8.ofNat v, 0]) ≠ four (sumB 1 [UInt8.ofNat v, 1]) := by decide +kernel

theorem oneP_bad (pre post : List UInt8) {v n r : Nat} {c : UInt8} (h1 : 1 ≤ v) (h2 : v < 128) (h3 : n < 2) (hr0 : 0 < r) (hr : r < 6) (hc : (putG v n)[r]? ≠ some c) :
    oneP (pre ++ ((putG v n).set r c ++ post)) pre.length = none := by
  obtain ⟨bs, hbs⟩ : ∃ bs, bs = pre ++ ((putG v n).set r c ++ post) := ⟨_, rfl⟩
  have hv : (UInt8.ofNat v).toNat = v := by rw [byte_nat]; omega
  have hn : (UInt8.ofNat n).toNat = n := by rw [byte_nat]; omega
  have hp := putG_small h2 h3
  have hl := putG_len6 h2 h3
  have hat : ∀ k, k < 6 → bs[pre.length + k]? = ((putG v n).set r c)[k]? := fun k hk => by
    rw [hbs, List.getElem?_append_right (by omega), Nat.add_sub_cancel_left, List.getElem?_append_left (by rw [List.length_set]; omega)]
  have e0 : bs[pre.length]? = some (UInt8.ofNat v) := by
    have := hat 0 (by omega)
    rw [Nat.add_zero] at this
    rw [this, List.getElem?_set_ne (by omega), hp]
    rfl
  have q0 := vget_small e0 (by omega)
  rw [hv] at q0
  have hdr : bs.drop pre.length = (putG v n).set r c ++ post := by
    rw [hbs, List.drop_append_of_le_length (Nat.le_refl _), List.drop_length, List.nil_append]
  rw [← hbs]
  unfold oneP
  rw [q0]
  dsimp only
  by_cases hr1 : r = 1
  · subst hr1
    have e1 : bs[pre.length + 1]? = some c := by
      rw [hat 1 (by omega), List.getElem?_set_self (by omega)]
    by_cases hbig : 128 ≤ c.toNat
    · cases hq : vget bs (pre.length + 1) with
      | none => rfl
      | some p =>
        obtain ⟨m, e⟩ := p
        have := vget_big e1 hbig hq
        dsimp only
        rw [if_pos (.inr (.inr (.inl (by omega))))]
    · have q1 := vget_small e1 (by omega)
      rw [q1]
      dsimp only
      split
      · rfl
      · rename_i hno
        rw [if_neg]
        intro he
        have hc2 : c.toNat < 2 := by omega
        rw [hdr, show pre.length + 1 + 1 + 4 - pre.length = 6 by omega, List.take_append_of_le_length (by rw [List.length_set]; omega), List.take_of_length_le (by rw [List.length_set]; omega)] at he
        have hcn : c = UInt8.ofNat c.toNat := by simp
        have hne : c.toNat ≠ n := fun e => hc (by rw [hp, ← e, ← hcn]; rfl)
        rw [hp, putG_small h2 hc2] at he
        have hf : four (sumB 1 [UInt8.ofNat v, UInt8.ofNat c.toNat]) = four (sumB 1 [UInt8.ofNat v, UInt8.ofNat n]) := by
          have := congrArg (List.drop 2) he
          exact this
        have hd := four_differ v h2
        have : (c.toNat = 0 ∧ n = 1) ∨ (c.toNat = 1 ∧ n = 0) := by omega
        rcases this with ⟨a, b⟩ | ⟨a, b⟩
        · rw [a, b] at hf
          exact hd hf
        · rw [a, b] at hf
          exact hd hf.symm
  · have e1 : bs[pre.length + 1]? = some (UInt8.ofNat n) := by
      rw [hat 1 (by omega), List.getElem?_set_ne (by omega), hp]
      rfl
    have q1 := vget_small e1 (by omega)
    rw [hn] at q1
    rw [q1]
    dsimp only
    split
    · rfl
    · rw [if_neg]
      intro he
      rw [hdr, show pre.length + 1 + 1 + 4 - pre.length = 6 by omega, List.take_append_of_le_length (by rw [List.length_set]; omega), List.take_of_length_le (by rw [List.length_set]; omega)] at he
      apply hc
      rw [he, List.getElem?_set_self (by omega)]

/-- What is read of the changed bytes. -/
theorem spoilt {gs : List (Nat × Nat)} (h : Good gs) (hl : gs.length < 100) {j : Nat} (hj : j < (enc gs).length) {c : UInt8} (hc : (enc gs)[j]? ≠ some c) :
    (∃ more, (getP ((enc gs).set j c)).1 = gs.take (j / 6) ++ more) ∧ (0 < j % 6 → getP ((enc gs).set j c) = (gs.take (j / 6), 6 * (j / 6))) ∧ j / 6 < gs.length := by
  have he := h.enc_len (by omega)
  have hq : j / 6 < gs.length := by omega
  obtain ⟨q, hqd⟩ : ∃ q, q = j / 6 := ⟨_, rfl⟩
  obtain ⟨r, hrd⟩ : ∃ r, r = j % 6 := ⟨_, rfl⟩
  rw [← hqd] at hq ⊢
  rw [← hrd]
  obtain ⟨g, hg⟩ : ∃ g, gs[q]? = some g := ⟨_, List.getElem?_eq_getElem hq⟩
  have hga := h.at_ _ _ hg
  have hsplit : gs = gs.take q ++ g :: gs.drop (q + 1) := by
    have hge : gs[q] = g := (List.getElem?_eq_some_iff.1 hg).2
    conv => lhs; rw [← List.take_append_drop q gs, List.drop_eq_getElem_cons hq, hge]
  have hpl : (enc (gs.take q)).length = 6 * q := by
    rw [Go.Proofs.YtgecidicpdobfaaDoor.enc_len]
    · rw [List.length_take]; omega
    · intro k hk
      obtain ⟨i, hi⟩ := List.getElem?_of_mem (List.mem_of_mem_take hk)
      have := h.at_ i k hi
      have := (List.getElem?_eq_some_iff.1 hi).1
      omega
  have hlen6 := putG_len6 (v := g.1) (n := g.2) (by omega) hga.2
  have hencs : enc gs = enc (gs.take q) ++ (putG g.1 g.2 ++ enc (gs.drop (q + 1))) := by
    conv => lhs; rw [hsplit, enc_append]
    rfl
  have hset : (enc gs).set j c = enc (gs.take q) ++ ((putG g.1 g.2).set r c ++ enc (gs.drop (q + 1))) := by
    rw [hencs, List.set_append_right _ _ (by omega), hpl, show j - 6 * q = r by omega, List.set_append_left _ _ (by omega)]
  have htake : ∀ (i : Nat) (k : Nat × Nat), (gs.take q)[i]? = some k → k.1 = 0 + i + 1 ∧ k.2 < 2 := fun i k hk => by
    rw [List.getElem?_take] at hk
    split at hk
    · have := h.at_ i k hk
      omega
    · cases hk
  obtain ⟨last, _, e⟩ := getL_pre (gs.take q) [] ((putG g.1 g.2).set r c ++ enc (gs.drop (q + 1))) (6 * gs.length + 1 - q) 0 0 [] htake (Nat.le_refl _) (by rw [List.length_take]; omega)
  have htl : (gs.take q).length = q := by rw [List.length_take]; omega
  rw [List.nil_append, ← hset, List.nil_append, List.length_nil, Nat.zero_add, htl, show 6 * gs.length + 1 - q + q = 6 * gs.length + 1 by omega] at e
  have hP : getP ((enc gs).set j c) = getL ((enc gs).set j c) (6 * gs.length + 1 - q) (6 * q) last (gs.take q) := by
    unfold getP
    rw [List.length_set, he]
    exact e
  refine ⟨by rw [hP]; exact getL_acc _ _ _ _ _, fun hr => ?_, hq⟩
  have hcr : (putG g.1 g.2)[r]? ≠ some c := fun e' => hc (by
    rw [hencs, List.getElem?_append_right (by omega), hpl, show j - 6 * q = r by omega, List.getElem?_append_left (by omega)]
    exact e')
  have hbad := oneP_bad (enc (gs.take q)) (enc (gs.drop (q + 1))) (v := g.1) (n := g.2) (r := r) (c := c) (by omega) (by omega) hga.2 hr (by omega) hcr
  rw [← hset, hpl] at hbad
  rw [hP, show 6 * gs.length + 1 - q = (6 * gs.length - q) + 1 by omega]
  unfold getL
  rw [hbad]
end Go.Proofs.YtgecidicpdobfaaDoor
