/-
  The plain law of frames: what is put is read, what is broken is not. No conditions but those named in each line.
-/
import Derived.Test.YtlhbidbdmdcdeaaGreatDoorLog3
namespace Go.Proofs.YtlhbidbdmdcdeaaGreatDoor
open Go Go.Abs Go.Abs.F
set_option linter.unusedVariables false

theorem or_add (acc c k : Nat) (h : acc < 2 ^ k) : acc ||| c * 2 ^ k = acc + c * 2 ^ k := by
  have := Nat.two_pow_add_eq_or_of_lt h c
  rw [Nat.mul_comm] at this
  rw [Nat.or_comm, ← this, Nat.add_comm]

theorem pow7 (k : Nat) : 2 ^ (7 * (k + 1)) = 128 * 2 ^ (7 * k) := by
  rw [Nat.mul_add, Nat.pow_add]; omega

theorem getN_putN {bs post : Bs} {at_ : Nat} : ∀ (f k m acc : Nat), f + k = 10 → m * 2 ^ (7 * k) < 2 ^ 64 → (k = 0 ∨ 0 < m) → acc < 2 ^ (7 * k) → bs.drop (at_ + k) = putN f m ++ post →
    getN bs at_ f k acc = some (acc + m * 2 ^ (7 * k), at_ + k + (putN f m).length) := by
  intro f
  induction f with
  | zero =>
    intro k m acc hf hm h0 ha hd
    obtain rfl : k = 10 := by omega
    exfalso
    rcases h0 with h | h
    · omega
    · have : 1 * 2 ^ 70 ≤ m * 2 ^ 70 := Nat.mul_le_mul_right _ h
      have e : 2 ^ (7 * 10) = 2 ^ 70 := rfl
      rw [e] at hm
      omega
  | succ f ih =>
    intro k m acc hf hm h0 ha hd
    have hk9 : k = 9 → m < 2 := by
      rintro rfl
      have e : 2 ^ (7 * 9) = 2 ^ 63 := rfl
      rw [e] at hm
      omega
    have hget : bs[at_ + k]? = (bs.drop (at_ + k))[0]? := by simp
    unfold getN
    by_cases hc : 128 ≤ m
    · have hp : putN (f + 1) m = UInt8.ofNat (m % 128 + 128) :: putN f (m / 128) := by rw [putN, if_pos hc]
      rw [hp] at hd ⊢
      rw [hget, hd]
      have hb : (UInt8.ofNat (m % 128 + 128)).toNat = m % 128 + 128 := by rw [byte_nat]; omega
      simp only [List.cons_append, List.getElem?_cons_zero, hb]
      rw [if_neg (by rintro ⟨h, _⟩; have := hk9 h; omega), if_pos (by omega)]
      have h128 : (m % 128 + 128) % 128 = m % 128 := by omega
      rw [h128, or_add _ _ _ ha]
      have hmul : m * 2 ^ (7 * k) = m % 128 * 2 ^ (7 * k) + m / 128 * 2 ^ (7 * (k + 1)) := by
        rw [pow7, ← Nat.mul_assoc, ← Nat.add_mul]
        congr 1
        omega
      rw [ih (k + 1) (m / 128) _ (by omega) (by omega) (.inr (by omega)) ?_ ?_]
      · rw [List.length_cons, hmul]
        congr 2 <;> omega
      · rw [pow7]
        have : m % 128 * 2 ^ (7 * k) ≤ 127 * 2 ^ (7 * k) := Nat.mul_le_mul_right _ (by omega)
        omega
      · rw [← Nat.add_assoc, ← List.drop_drop, hd]; rfl
    · have hp : putN (f + 1) m = [UInt8.ofNat m] := by rw [putN, if_neg hc]
      rw [hp] at hd ⊢
      rw [hget, hd]
      have hb : (UInt8.ofNat m).toNat = m := by rw [byte_nat]; omega
      simp only [List.cons_append, List.getElem?_cons_zero, hb]
      rw [if_neg (by rintro ⟨h, _⟩; have := hk9 h; omega), if_neg hc, if_neg (by omega), Nat.mod_eq_of_lt (by omega), or_add _ _ _ ha]
      rfl

theorem vget_vput {bs pre post : Bs} {n at_ : Nat} (hb : bs = pre ++ (vput n ++ post)) (ha : at_ = pre.length) (hn : n < 2 ^ 64) : vget bs at_ = some (n, at_ + (vput n).length) := by
  subst hb ha
  unfold vget
  rw [if_pos (by simp), getN_putN (post := post) 10 0 n 0 rfl (by simpa using hn) (.inl rfl) (by simp) (by simp [vput])]
  simp [vput]

theorem nxt_put {bs pre post : Bs} {n at_ most : Nat} {bad : Bool} (hb : bs = pre ++ (vput n ++ post)) (ha : at_ = pre.length) (hn : n ≤ most) (hm : most < 2 ^ 64) : nxt bs most at_ bad = (n, at_ + (vput n).length, bad) := by
  unfold nxt
  rw [vget_vput hb ha (by omega)]
  simp only [Nat.min_eq_left hn, Prod.mk.injEq, true_and]
  rw [decide_eq_false (by omega), Bool.or_false]

/-- What is put is got. -/
theorem getE_putB {e : Ent} (h : mayE e = true) (hw : EWf e) : getE (putB e) = some e := by
  obtain ⟨v0, v1, k0, k1, h1, h2, h3, h4⟩ := mayE_range h
  have hput : putE e = some (putB e) := by unfold putE; rw [if_pos h]
  obtain ⟨w0, w1⟩ := hw
  have main : ∃ c r, putB e = c :: r ∧ getFields (putB e) c = some (e, false) := by
    refine ⟨_, _, rfl, ?_⟩
    have hkb : (UInt8.ofNat e.k.toNat).toNat = e.k.toNat := by rw [byte_nat]; omega
    have hc1 : putB e = [UInt8.ofNat e.k.toNat] ++ (vput e.v.toNat ++ (putNs (nums e) ++ e.x)) := by simp [putB]
    have n1 := nxt_put (most := 1073741824) (bad := false) hc1 rfl (by omega) (by omega)
    have hv : ((e.v.toNat : Nat) : Int) = e.v := Int.toNat_of_nonneg v0
    rcases (by omega : e.k = 1 ∨ e.k = 2 ∨ e.k = 3 ∨ e.k = 4) with hk | hk | hk | hk
    · obtain ⟨hx, i0, i1, t0, t1, f0, f1, o1⟩ := h1 hk
      have hk' : (UInt8.ofNat e.k.toNat).toNat = 1 := by rw [hkb, hk]; rfl
      have hn : nums e = [e.i.toNat, e.t.toNat, e.f.toNat, e.o.toNat, e.u.toNat] := by simp [nums, hk]
      have c2 : putB e = ([UInt8.ofNat e.k.toNat] ++ vput e.v.toNat) ++ (vput e.i.toNat ++ (vput e.t.toNat ++ vput e.f.toNat ++ vput e.o.toNat ++ vput e.u.toNat)) := by simp [putB, hn, putNs, hx]
      have c3 : putB e = ([UInt8.ofNat e.k.toNat] ++ vput e.v.toNat ++ vput e.i.toNat) ++ (vput e.t.toNat ++ (vput e.f.toNat ++ vput e.o.toNat ++ vput e.u.toNat)) := by simp [putB, hn, putNs, hx]
      have c4 : putB e = ([UInt8.ofNat e.k.toNat] ++ vput e.v.toNat ++ vput e.i.toNat ++ vput e.t.toNat) ++ (vput e.f.toNat ++ (vput e.o.toNat ++ vput e.u.toNat)) := by simp [putB, hn, putNs, hx]
      have c5 : putB e = ([UInt8.ofNat e.k.toNat] ++ vput e.v.toNat ++ vput e.i.toNat ++ vput e.t.toNat ++ vput e.f.toNat) ++ (vput e.o.toNat ++ vput e.u.toNat) := by simp [putB, hn, putNs, hx]
      have c6 : putB e = ([UInt8.ofNat e.k.toNat] ++ vput e.v.toNat ++ vput e.i.toNat ++ vput e.t.toNat ++ vput e.f.toNat ++ vput e.o.toNat) ++ (vput e.u.toNat ++ []) := by simp [putB, hn, putNs, hx]
      have n2 := nxt_put (most := 1073741824) (bad := false) c2 rfl (by omega) (by omega)
      have n3 := nxt_put (most := 4) (bad := false) c3 rfl (by omega) (by omega)
      have n4 := nxt_put (most := 1099511627776) (bad := false) c4 rfl (by omega) (by omega)
      have n5 := nxt_put (most := 1099511627776) (bad := false) c5 rfl (by omega) (by omega)
      have n6 := nxt_put (most := 4294967295) (bad := false) c6 rfl (by omega) (by omega)
      simp only [List.length_append, List.length_cons, List.length_nil, Nat.zero_add] at n1 n2 n3 n4 n5 n6
      unfold getFields
      simp only [hk', n1, n2, n3, n4, n5, n6, if_true]
      simp only [hv, Int.toNat_of_nonneg (show 0 ≤ e.i by omega), Int.toNat_of_nonneg t0, Int.toNat_of_nonneg f0, Int.toNat_of_nonneg (show 0 ≤ e.o by omega), Int.toNat_of_nonneg w0]
      obtain ⟨a1, a2, a3, a4, a5, a6, a7, a8⟩ := e
      simp only at hk hx
      subst hk hx
      rfl
    · have hk' : (UInt8.ofNat e.k.toNat).toNat = 2 := by rw [hkb, hk]; rfl
      obtain ⟨q0, q1, q2⟩ := h2 hk
      have hn : nums e = [e.i.toNat] := by simp [nums, hk]
      have c2 : putB e = ([UInt8.ofNat e.k.toNat] ++ vput e.v.toNat) ++ (vput e.i.toNat ++ e.x) := by simp [putB, hn, putNs]
      have n2 := nxt_put (most := 1073741824) (bad := false) c2 rfl (by omega) (by omega)
      simp only [List.length_append, List.length_cons, List.length_nil, Nat.zero_add] at n1 n2
      unfold getFields
      simp only [hk', n1, n2, if_true, if_neg (show ¬ (2 : Nat) = 1 by decide)]
      rw [hv, Int.toNat_of_nonneg (show 0 ≤ e.i by omega)]
      obtain ⟨a1, a2, a3, a4, a5, a6, a7, a8⟩ := e
      simp only at hk
      subst hk
      obtain rfl : a4 = 0 := congrArg Ent.t q2
      obtain rfl : a5 = 0 := congrArg Ent.f q2
      obtain rfl : a6 = 0 := congrArg Ent.o q2
      obtain rfl : a7 = 0 := congrArg Ent.u q2
      obtain rfl : a8 = [] := congrArg Ent.x q2
      rfl
    · have hk' : (UInt8.ofNat e.k.toNat).toNat = 3 := by rw [hkb, hk]; rfl
      simp only [List.length_append, List.length_cons, List.length_nil, Nat.zero_add] at n1
      unfold getFields
      simp only [hk', n1, if_neg (show ¬ (3 : Nat) = 1 by decide), if_neg (show ¬ (3 : Nat) = 2 by decide), if_neg (show ¬ (3 : Nat) = 4 by decide)]
      rw [hv]
      have q2 := (h3 hk).2
      obtain ⟨a1, a2, a3, a4, a5, a6, a7, a8⟩ := e
      simp only at hk
      subst hk
      simp only [ent0, Ent.mk.injEq] at q2
      obtain ⟨_, _, q3, q4, q5, q6, q7, q8⟩ := q2
      subst_vars
      rfl
    · have hk' : (UInt8.ofNat e.k.toNat).toNat = 4 := by rw [hkb, hk]; rfl
      obtain ⟨x0, q2, _⟩ := h4 hk
      have hn : nums e = [e.x.length] := by simp [nums, hk]
      have c2 : putB e = ([UInt8.ofNat e.k.toNat] ++ vput e.v.toNat) ++ (vput e.x.length ++ e.x) := by simp [putB, hn, putNs]
      have n2 := nxt_put (most := 300) (bad := false) c2 rfl (by omega) (by omega)
      have hl : (putB e).length = 1 + (vput e.v.toNat).length + (vput e.x.length).length + e.x.length := by rw [c2]; simp; omega
      have hd : (putB e).drop (1 + (vput e.v.toNat).length + (vput e.x.length).length) = e.x := by
        rw [c2, ← List.append_assoc, List.drop_left']
        simp
        omega
      simp only [List.length_append, List.length_cons, List.length_nil, Nat.zero_add] at n1 n2
      unfold getFields
      simp only [hk', n1, n2, if_neg (show ¬ (4 : Nat) = 1 by decide), if_neg (show ¬ (4 : Nat) = 2 by decide), if_true]
      rw [if_neg (by rw [hl]; simp), hd, List.take_length, hv]
      obtain ⟨a1, a2, a3, a4, a5, a6, a7, a8⟩ := e
      simp only at hk
      subst hk
      simp only [ent0, Ent.mk.injEq] at q2
      obtain ⟨_, _, q3, q4, q5, q6, q7, q8⟩ := q2
      subst_vars
      rfl
  obtain ⟨c, r, hb, hf⟩ := main
  unfold getE
  rw [hb]
  simp only
  rw [← hb, hf]
  simp [hput]

theorem getE_back {bs : Bs} {e : Ent} (h : getE bs = some e) : mayE e = true ∧ bs = putB e := by
  unfold getE at h
  split at h
  · cases h
  · split at h
    · cases h
    · rename_i e' bad he
      split at h
      · rename_i hc
        cases h
        have hp := hc.2
        unfold putE at hp
        split at hp
        · rename_i hm
          cases hp
          exact ⟨hm, rfl⟩
        · cases hp
      · cases h

/-! ### A frame -/

theorem openB_wrap {bs pre b post : Bs} {at_ : Nat} (hb : bs = pre ++ (wrapB b ++ post)) (ha : at_ = pre.length) (hn : b.length < 2 ^ 64) : openB bs at_ = some (b, at_ + (wrapB b).length) := by
  have hs : bs = pre ++ (vput b.length ++ (four (sumB 1 (vput b.length ++ b)) ++ b ++ post)) := by rw [hb]; simp [wrapB]
  have h4 : ∀ n, (four n).length = 4 := fun _ => rfl
  have hl : bs.length = at_ + (vput b.length).length + 4 + b.length + post.length := by rw [hs, ha]; simp [h4]; omega
  have hw : (wrapB b).length = (vput b.length).length + 4 + b.length := by simp [wrapB, h4]; omega
  have hd : bs.drop at_ = wrapB b ++ post := by rw [hb, ha, List.drop_left]
  have hd2 : bs.drop (at_ + (vput b.length).length + 4) = b ++ post := by
    rw [hs, ha, show pre ++ (vput b.length ++ (four (sumB 1 (vput b.length ++ b)) ++ b ++ post)) = (pre ++ vput b.length ++ four (sumB 1 (vput b.length ++ b))) ++ (b ++ post) by simp]
    rw [List.drop_left']
    simp [h4]
    omega
  unfold openB
  rw [vget_vput hs ha hn]
  simp only
  rw [if_neg (by omega), hd, hd2, List.take_left, List.take_left' (by rw [hw]; omega), if_pos rfl]
  congr 2
  omega

theorem openB_back {bs p : Bs} {at_ e : Nat} (h : openB bs at_ = some (p, e)) : e = at_ + (wrapB p).length ∧ e ≤ bs.length ∧ ∃ post, bs.drop at_ = wrapB p ++ post := by
  have he := openB_le h
  unfold openB at h
  split at h
  · cases h
  · rename_i n to hv
    have hlt := vget_lt hv
    split at h
    · cases h
    · split at h
      · rename_i hc heq
        cases h
        have h1 := List.take_append_drop (to + 4 + n - at_) (bs.drop at_)
        have hl : ((bs.drop at_).take (to + 4 + n - at_)).length = to + 4 + n - at_ := by rw [List.length_take, List.length_drop]; omega
        rw [heq] at hl h1
        exact ⟨by omega, he, _, h1.symm⟩
      · cases h

/-- No frame begins another. -/
theorem wrapB_free {p q r r' : Bs} (h : wrapB p ++ r = wrapB q ++ r') (hp : p.length < 2 ^ 64) (hq : q.length < 2 ^ 64) : p = q ∧ r = r' := by
  have h1 := openB_wrap (bs := wrapB p ++ r) (pre := []) (b := p) (post := r) (at_ := 0) rfl rfl hp
  have h2 := openB_wrap (bs := wrapB p ++ r) (pre := []) (b := q) (post := r') (at_ := 0) (by rw [h]; rfl) rfl hq
  rw [h1] at h2
  have : p = q := by cases h2; rfl
  subst this
  exact ⟨rfl, List.append_cancel_left h⟩

theorem openB_end {bs : Bs} {at_ : Nat} (h : bs.length ≤ at_) : openB bs at_ = none := by
  unfold openB vget
  split
  · rfl
  · rename_i n to hv
    split at hv
    · unfold getN at hv
      rw [show bs[at_ + 0]? = none from List.getElem?_eq_none (by omega)] at hv
      cases hv
    · cases hv

theorem framesB_append : ∀ l m : List Ent, framesB (l ++ m) = framesB l ++ framesB m
  | [], m => rfl
  | e :: r, m => by simp [framesB, framesB_append r m]

theorem mayE_len {e : Ent} (h : mayE e = true) : (putB e).length ≤ 400 := putB_len (mayE_x h)

/-- Whole frames are read. -/
theorem readL_frames {bs post : Bs} : ∀ (l : List Ent) (f : Nat) (pre : Bs) (acc : List Ent), l.length ≤ f → l.all mayE = true → (∀ e ∈ l, EWf e) → bs = pre ++ (framesB l ++ post) →
    readL bs f pre.length acc = readL bs (f - l.length) (pre.length + (framesB l).length) (acc ++ l)
  | [], f, pre, acc, _, _, _, _ => by simp [framesB]
  | e :: r, f + 1, pre, acc, hf, hm, hw, hb => by
    simp only [List.all_cons, Bool.and_eq_true] at hm
    have hl := mayE_len hm.1
    have ho := openB_wrap (bs := bs) (pre := pre) (at_ := pre.length) (b := putB e) (post := framesB r ++ post) (by rw [hb]; simp [framesB]) rfl (by omega)
    rw [readL, ho]
    simp only [getE_putB hm.1 (hw e (by simp))]
    have ih := readL_frames (bs := bs) (post := post) r f (pre ++ wrapB (putB e)) (acc ++ [e]) (by simpa using hf) hm.2 (fun x hx => hw x (by simp [hx])) (by rw [hb]; simp [framesB])
    rw [List.length_append] at ih
    rw [ih]
    simp [framesB]
    congr 1
    omega

/-- Where no frame stands the reading ends. -/
theorem readL_none {bs : Bs} {f at_ : Nat} {acc : List Ent} (h : openB bs at_ = none) : readL bs f at_ acc = (acc, at_) := by
  cases f with
  | zero => rfl
  | succ f => rw [readL, h]

theorem readP_frames {bs post : Bs} {l : List Ent} (hl : l.length ≤ 2000) (hm : l.all mayE = true) (hw : ∀ e ∈ l, EWf e) (hb : bs = framesB l ++ post) :
    readP bs = readL bs (2000 - l.length) (framesB l).length l := by
  have := readL_frames (bs := bs) (post := post) l 2000 [] [] hl hm hw hb
  simpa [readP] using this
end Go.Proofs.YtlhbidbdmdcdeaaGreatDoor
