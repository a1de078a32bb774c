/-
  Several texts in one: what functions that the law reaches compute. No conditions but those named in each line.
-/
import Derived.Test.YtbohejffelipoaaGreatDoorFnsB
import Derived.Test.YtbohejffelipoaaGreatDoorFnsA
import Derived.Test.YtbohejffelipoaaGreatDoorAbsE
/-
  The plain law of frames: what is put is read, what is broken is not. No conditions but those named in each line.
-/
namespace Go.Proofs.YtbohejffelipoaaGreatDoor
open Go Go.Abs Go.Abs.F
set_option linter.unusedVariables false

theorem or_add (acc c k : Nat) (h : acc < 2 ^ k) : acc ||| c * 2 ^ k = acc + c * 2 ^ k := by
  have := Nat.two_pow_add_eq_or_of_lt h c
  rw [Nat.mul_comm] at this
  rw [Nat.or_comm, ← this, Nat.add_comm]

theorem pow7 (k : Nat) : 2 ^ (7 * (k + 1)) = 128 * 2 ^ (7 * k) := by
  rw [Nat.mul_add, Nat.pow_add]; omega

theorem getN_putN {bs post : Bs} {at_ : Nat} : ∀ (f k m acc : Nat), f + k = 10 → m * 2 ^ (7 * k) < 2 ^ 64 → (k = 0 ∨ 0 < m) → acc < 2 ^ (7 * k) → bs.drop (at_ + k) = putN f m ++ post →
    getN bs at_ f k acc = some (acc + m * 2 ^ (7 * k), at_ + k + (putN f m).length) := by
  intro f
  induction f with
  | zero =>
    intro k m acc hf hm h0 ha hd
    obtain rfl : k = 10 := by omega
    exfalso
    rcases h0 with h | h
    · omega
    · have : 1 * 2 ^ 70 ≤ m * 2 ^ 70 := Nat.mul_le_mul_right _ h
      have e : 2 ^ (7 * 10) = 2 ^ 70 := rfl
      rw [e] at hm
      omega
  | succ f ih =>
    intro k m acc hf hm h0 ha hd
    have hk9 : k = 9 → m < 2 := by
      rintro rfl
      have e : 2 ^ (7 * 9) = 2 ^ 63 := rfl
      rw [e] at hm
      omega
    have hget : bs[at_ + k]? = (bs.drop (at_ + k))[0]? := by simp
    unfold getN
    by_cases hc : 128 ≤ m
    · have hp : putN (f + 1) m = UInt8.ofNat (m % 128 + 128) :: putN f (m / 128) := by rw [putN, if_pos hc]
      rw [hp] at hd ⊢
      rw [hget, hd]
      have hb : (UInt8.ofNat (m % 128 + 128)).toNat = m % 128 + 128 := by rw [byte_nat]; omega
      simp only [List.cons_append, List.getElem?_cons_zero, hb]
      rw [if_neg (by rintro ⟨h, _⟩; have := hk9 h; omega), if_pos (by omega)]
      have h128 : (m % 128 + 128) % 128 = m % 128 := by omega
      rw [h128, or_add _ _ _ ha]
      have hmul : m * 2 ^ (7 * k) = m % 128 * 2 ^ (7 * k) + m / 128 * 2 ^ (7 * (k + 1)) := by
        rw [pow7, ← Nat.mul_assoc, ← Nat.add_mul]
        congr 1
        omega
      rw [ih (k + 1) (m / 128) _ (by omega) (by omega) (.inr (by omega)) ?_ ?_]
      · rw [List.length_cons, hmul]
        congr 2 <;> omega
      · rw [pow7]
        have : m % 128 * 2 ^ (7 * k) ≤ 127 * 2 ^ (7 * k) := Nat.mul_le_mul_right _ (by omega)
        omega
      · rw [← Nat.add_assoc, ← List.drop_drop, hd]; rfl
    · have hp : putN (f + 1) m = [UInt8.ofNat m] := by rw [putN, if_neg hc]
      rw [hp] at hd ⊢
      rw [hget, hd]
      have hb : (UInt8.ofNat m).toNat = m := by rw [byte_nat]; omega
      simp only [List.cons_append, List.getElem?_cons_zero, hb]
      rw [if_neg (by rintro ⟨h, _⟩; have := hk9 h; omega), if_neg hc, if_neg (by omega), Nat.mod_eq_of_lt (by omega), or_add _ _ _ ha]
      rfl

theorem vget_vput {bs pre post : Bs} {n at_ : Nat} (hb : bs = pre ++ (vput n ++ post)) (ha : at_ = pre.length) (hn : n < 2 ^ 64) : vget bs at_ = some (n, at_ + (vput n).length) := by
  subst hb ha
  unfold vget
  rw [if_pos (by simp), getN_putN (post := post) 10 0 n 0 rfl (by simpa using hn) (.inl rfl) (by simp) (by simp [vput])]
  simp [vput]

theorem nxt_put {bs pre post : Bs} {n at_ most : Nat} {bad : Bool} (hb : bs = pre ++ (vput n ++ post)) (ha : at_ = pre.length) (hn : n ≤ most) (hm : most < 2 ^ 64) : nxt bs most at_ bad = (n, at_ + (vput n).length, bad) := by
  unfold nxt
  rw [vget_vput hb ha (by omega)]
  simp only [Nat.min_eq_left hn, Prod.mk.injEq, true_and]
  rw [decide_eq_false (by omega), Bool.or_false]

theorem getE_putB {e : Ent} (h : mayE e = true) (hw : EWf e) : getE (putB e) = some e := by
  obtain ⟨v0, v1, k0, k1, h1, h2, h3, h4⟩ := mayE_range h
  have hput : putE e = some (putB e) := by unfold putE; rw [if_pos h]
  obtain ⟨w0, w1⟩ := hw
  have main : ∃ c r, putB e = c :: r ∧ getFields (putB e) c = some (e, false) := by
    refine ⟨_, _, rfl, ?_⟩
    have hkb : (UInt8.ofNat e.k.toNat).toNat = e.k.toNat := by rw [byte_nat]; omega
    have hc1 : putB e = [UInt8.ofNat e.k.toNat] ++ (vput e.v.toNat ++ (putNs (nums e) ++ e.x)) := by simp [putB]
    have n1 := nxt_put (most := 1073741824) (bad := false) hc1 rfl (by omega) (by omega)
    have hv : ((e.v.toNat : Nat) : Int) = e.v := Int.toNat_of_nonneg v0
    rcases (by omega : e.k = 1 ∨ e.k = 2 ∨ e.k = 3 ∨ e.k = 4) with hk | hk | hk | hk
    · obtain ⟨hx, i0, i1, t0, t1, f0, f1, o1⟩ := h1 hk
      have hk' : (UInt8.ofNat e.k.toNat).toNat = 1 := by rw [hkb, hk]; rfl
      have hn : nums e = [e.i.toNat, e.t.toNat, e.f.toNat, e.o.toNat, e.u.toNat] := by simp [nums, hk]
      have c2 : putB e = ([UInt8.ofNat e.k.toNat] ++ vput e.v.toNat) ++ (vput e.i.toNat ++ (vput e.t.toNat ++ vput e.f.toNat ++ vput e.o.toNat ++ vput e.u.toNat)) := by simp [putB, hn, putNs, hx]
      have c3 : putB e = ([UInt8.ofNat e.k.toNat] ++ vput e.v.toNat ++ vput e.i.toNat) ++ (vput e.t.toNat ++ (vput e.f.toNat ++ vput e.o.toNat ++ vput e.u.toNat)) := by simp [putB, hn, putNs, hx]
      have c4 : putB e = ([UInt8.ofNat e.k.toNat] ++ vput e.v.toNat ++ vput e.i.toNat ++ vput e.t.toNat) ++ (vput e.f.toNat ++ (vput e.o.toNat ++ vput e.u.toNat)) := by simp [putB, hn, putNs, hx]
      have c5 : putB e = ([UInt8.ofNat e.k.toNat] ++ vput e.v.toNat ++ vput e.i.toNat ++ vput e.t.toNat ++ vput e.f.toNat) ++ (vput e.o.toNat ++ vput e.u.toNat) := by simp [putB, hn, putNs, hx]
      have c6 : putB e = ([UInt8.ofNat e.k.toNat] ++ vput e.v.toNat ++ vput e.i.toNat ++ vput e.t.toNat ++ vput e.f.toNat ++ vput e.o.toNat) ++ (vput e.u.toNat ++ []) := by simp [putB, hn, putNs, hx]
      have n2 := nxt_put (most := 1073741824) (bad := false) c2 rfl (by omega) (by omega)
      have n3 := nxt_put (most := 4) (bad := false) c3 rfl (by omega) (by omega)
      have n4 := nxt_put (most := 1099511627776) (bad := false) c4 rfl (by omega) (by omega)
      have n5 := nxt_put (most := 1099511627776) (bad := false) c5 rfl (by omega) (by omega)
      have n6 := nxt_put (most := 4294967295) (bad := false) c6 rfl (by omega) (by omega)
      simp only [List.length_append, List.length_cons, List.length_nil, Nat.zero_add] at n1 n2 n3 n4 n5 n6
      unfold getFields
      simp only [hk', n1, n2, n3, n4, n5, n6, if_true]
      simp only [hv, Int.toNat_of_nonneg (show 0 ≤ e.i by omega), Int.toNat_of_nonneg t0, Int.toNat_of_nonneg f0, Int.toNat_of_nonneg (show 0 ≤ e.o by omega), Int.toNat_of_nonneg w0]
      obtain ⟨a1, a2, a3, a4, a5, a6, a7, a8⟩ := e
      simp only at hk hx
      subst hk hx
      rfl
    · have hk' : (UInt8.ofNat e.k.toNat).toNat = 2 := by rw [hkb, hk]; rfl
      obtain ⟨q0, q1, q2⟩ := h2 hk
      have hn : nums e = [e.i.toNat] := by simp [nums, hk]
      have c2 : putB e = ([UInt8.ofNat e.k.toNat] ++ vput e.v.toNat) ++ (vput e.i.toNat ++ e.x) := by simp [putB, hn, putNs]
      have n2 := nxt_put (most := 1073741824) (bad := false) c2 rfl (by omega) (by omega)
      simp only [List.length_append, List.length_cons, List.length_nil, Nat.zero_add] at n1 n2
      unfold getFields
      simp only [hk', n1, n2, if_true, if_neg (show ¬ (2 : Nat) = 1 by decide)]
      rw [hv, Int.toNat_of_nonneg (show 0 ≤ e.i by omega)]
      obtain ⟨a1, a2, a3, a4, a5, a6, a7, a8⟩ := e
      simp only at hk
      subst hk
      obtain rfl : a4 = 0 := congrArg Ent.t q2
      obtain rfl : a5 = 0 := congrArg Ent.f q2
      obtain rfl : a6 = 0 := congrArg Ent.o q2
      obtain rfl : a7 = 0 := congrArg Ent.u q2
      obtain rfl : a8 = [] := congrArg Ent.x q2
      rfl
    · have hk' : (UInt8.ofNat e.k.toNat).toNat = 3 := by rw [hkb, hk]; rfl
      simp only [List.length_append, List.length_cons, List.length_nil, Nat.zero_add] at n1
      unfold getFields
      simp only [hk', n1, if_neg (show ¬ (3 : Nat) = 1 by decide), if_neg (show ¬ (3 : Nat) = 2 by decide), if_neg (show ¬ (3 : Nat) = 4 by decide)]
      rw [hv]
      have q2 := (h3 hk).2
      obtain ⟨a1, a2, a3, a4, a5, a6, a7, a8⟩ := e
      simp only at hk
      subst hk
      simp only [ent0, Ent.mk.injEq] at q2
      obtain ⟨_, _, q3, q4, q5, q6, q7, q8⟩ := q2
      subst_vars
      rfl
    · have hk' : (UInt8.ofNat e.k.toNat).toNat = 4 := by rw [hkb, hk]; rfl
      obtain ⟨x0, q2, _⟩ := h4 hk
      have hn : nums e = [e.x.length] := by simp [nums, hk]
      have c2 : putB e = ([UInt8.ofNat e.k.toNat] ++ vput e.v.toNat) ++ (vput e.x.length ++ e.x) := by simp [putB, hn, putNs]
      have n2 := nxt_put (most := 300) (bad := false) c2 rfl (by omega) (by omega)
      have hl : (putB e).length = 1 + (vput e.v.toNat).length + (vput e.x.length).length + e.x.length := by rw [c2]; simp; omega
      have hd : (putB e).drop (1 + (vput e.v.toNat).length + (vput e.x.length).length) = e.x := by
        rw [c2, ← List.append_assoc, List.drop_left']
        simp
        omega
      simp only [List.length_append, List.length_cons, List.length_nil, Nat.zero_add] at n1 n2
      unfold getFields
      simp only [hk', n1, n2, if_neg (show ¬ (4 : Nat) = 1 by decide), if_neg (show ¬ (4 : Nat) = 2 by decide), if_true]
      rw [if_neg (by rw [hl]; simp), hd, List.take_length, hv]
      obtain ⟨a1, a2, a3, a4, a5, a6, a7, a8⟩ := e
      simp only at hk
      subst hk
      simp only [ent0, Ent.mk.injEq] at q2
      obtain ⟨_, _, q3, q4, q5, q6, q7, q8⟩ := q2
      subst_vars
      rfl
  obtain ⟨c, r, hb, hf⟩ := main
  unfold getE
  rw [hb]
  simp only
  rw [← hb, hf]
  simp [hput]

/-! ### A frame -/

theorem openB_wrap {bs pre b post : Bs} {at_ : Nat} (hb : bs = pre ++ (wrapB b ++ post)) (ha : at_ = pre.length) (hn : b.length < 2 ^ 64) : openB bs at_ = some (b, at_ + (wrapB b).length) := by
  have hs : bs = pre ++ (vput b.length ++ (four (sumB 1 (vput b.length ++ b)) ++ b ++ post)) := by rw [hb]; simp [wrapB]
  have h4 : ∀ n, (four n).length = 4 := fun _ => rfl
  have hl : bs.length = at_ + (vput b.length).length + 4 + b.length + post.length := by rw [hs, ha]; simp [h4]; omega
  have hw : (wrapB b).length = (vput b.length).length + 4 + b.length := by simp [wrapB, h4]; omega
  have hd : bs.drop at_ = wrapB b ++ post := by rw [hb, ha, List.drop_left]
  have hd2 : bs.drop (at_ + (vput b.length).length + 4) = b ++ post := by
    rw [hs, ha, show pre ++ (vput b.length ++ (four (sumB 1 (vput b.length ++ b)) ++ b ++ post)) = (pre ++ vput b.length ++ four (sumB 1 (vput b.length ++ b))) ++ (b ++ post) by simp]
    rw [List.drop_left']
    simp [h4]
    omega
  unfold openB
  rw [vget_vput hs ha hn]
  simp only
  rw [if_neg (by omega), hd, hd2, List.take_left, List.take_left' (by rw [hw]; omega), if_pos rfl]
  congr 2
  omega

theorem openB_back {bs p : Bs} {at_ e : Nat} (h : openB bs at_ = some (p, e)) : e = at_ + (wrapB p).length ∧ e ≤ bs.length ∧ ∃ post, bs.drop at_ = wrapB p ++ post := by
  have he := openB_le h
  unfold openB at h
  split at h
  · cases h
  · rename_i n to hv
    have hlt := vget_lt hv
    split at h
    · cases h
    · split at h
      · rename_i hc heq
        cases h
        have h1 := List.take_append_drop (to + 4 + n - at_) (bs.drop at_)
        have hl : ((bs.drop at_).take (to + 4 + n - at_)).length = to + 4 + n - at_ := by rw [List.length_take, List.length_drop]; omega
        rw [heq] at hl h1
        exact ⟨by omega, he, _, h1.symm⟩
      · cases h

theorem wrapB_free {p q r r' : Bs} (h : wrapB p ++ r = wrapB q ++ r') (hp : p.length < 2 ^ 64) (hq : q.length < 2 ^ 64) : p = q ∧ r = r' := by
  have h1 := openB_wrap (bs := wrapB p ++ r) (pre := []) (b := p) (post := r) (at_ := 0) rfl rfl hp
  have h2 := openB_wrap (bs := wrapB p ++ r) (pre := []) (b := q) (post := r') (at_ := 0) (by rw [h]; rfl) rfl hq
  rw [h1] at h2
  have : p = q := by cases h2; rfl
  subst this
  exact ⟨rfl, List.append_cancel_left h⟩

theorem framesB_append : ∀ l m : List Ent, framesB (l ++ m) = framesB l ++ framesB m
  | [], m => rfl
  | e :: r, m => by simp [framesB, framesB_append r m]

theorem mayE_len {e : Ent} (h : mayE e = true) : (putB e).length ≤ 400 := putB_len (mayE_x h)

theorem readL_frames {bs post : Bs} : ∀ (l : List Ent) (f : Nat) (pre : Bs) (acc : List Ent), l.length ≤ f → l.all mayE = true → (∀ e ∈ l, EWf e) → bs = pre ++ (framesB l ++ post) →
    readL bs f pre.length acc = readL bs (f - l.length) (pre.length + (framesB l).length) (acc ++ l)
  | [], f, pre, acc, _, _, _, _ => by simp [framesB]
  | e :: r, f + 1, pre, acc, hf, hm, hw, hb => by
    simp only [List.all_cons, Bool.and_eq_true] at hm
    have hl := mayE_len hm.1
    have ho := openB_wrap (bs := bs) (pre := pre) (at_ := pre.length) (b := putB e) (post := framesB r ++ post) (by rw [hb]; simp [framesB]) rfl (by omega)
    rw [readL, ho]
    simp only [getE_putB hm.1 (hw e (by simp))]
    have ih := readL_frames (bs := bs) (post := post) r f (pre ++ wrapB (putB e)) (acc ++ [e]) (by simpa using hf) hm.2 (fun x hx => hw x (by simp [hx])) (by rw [hb]; simp [framesB])
    rw [List.length_append] at ih
    rw [ih]
    simp [framesB]
    congr 1
    omega

theorem readL_none {bs : Bs} {f at_ : Nat} {acc : List Ent} (h : openB bs at_ = none) : readL bs f at_ acc = (acc, at_) := by
  cases f with
  | zero => rfl
  | succ f => rw [readL, h]

theorem readP_frames {bs post : Bs} {l : List Ent} (hl : l.length ≤ 2000) (hm : l.all mayE = true) (hw : ∀ e ∈ l, EWf e) (hb : bs = framesB l ++ post) :
    readP bs = readL bs (2000 - l.length) (framesB l).length l := by
  have := readL_frames (bs := bs) (post := post) l 2000 [] [] hl hm hw hb
  simpa [readP] using this
end Go.Proofs.YtbohejffelipoaaGreatDoor


/-
  What stands whole in a torn row is read: the plain law. No conditions but those named in each line.
-/
namespace Go.Proofs.YtbohejffelipoaaGreatDoor
open Go Go.Abs Go.Abs.F
set_option linter.unusedVariables false

theorem torn_cut : ∀ (l : List Ent) (k : Nat), k ≤ (framesB l).length → ∃ j post, (framesB l).take k = framesB (l.take j) ++ post ∧ ((∃ hj : j < l.length, ∃ more, more ≠ [] ∧ post ++ more = wrapB (putB l[j])) ∨ (j = l.length ∧ post = []))
  | [], k, h => ⟨0, [], by simp [framesB], .inr ⟨rfl, rfl⟩⟩
  | e :: r, k, h => by
    by_cases hk : (wrapB (putB e)).length ≤ k
    · obtain ⟨j, post, h1, h2⟩ := torn_cut r (k - (wrapB (putB e)).length) (by simp [framesB] at h; omega)
      refine ⟨j + 1, post, ?_, ?_⟩
      · simp only [framesB, List.take_succ_cons]
        rw [List.take_append, List.take_of_length_le hk, h1, List.append_assoc]
      · rcases h2 with ⟨hj, m, h3, h4⟩ | ⟨h3, h4⟩
        · exact .inl ⟨by simpa using hj, m, h3, by simpa using h4⟩
        · exact .inr ⟨by simp [h3], h4⟩
    · refine ⟨0, (wrapB (putB e)).take k, ?_, .inl ⟨by simp, (wrapB (putB e)).drop k, fun h0 => ?_, by simp [List.take_append_drop]⟩⟩
      · simp only [framesB, List.take_zero, List.nil_append]
        rw [List.take_append_of_le_length (by omega)]
      · have := congrArg List.length h0
        rw [List.length_drop] at this
        simp at this
        omega

theorem wrapB_le (p : Bs) : p.length ≤ (wrapB p).length := by simp [wrapB]; omega

theorem torn_law {l : List Ent} (hm : l.all mayE = true) (hw : ∀ e ∈ l, EWf e) (hl : l.length ≤ 2000) {k : Nat} (hk : k ≤ (framesB l).length) :
    ∃ j, j ≤ l.length ∧ readP ((framesB l).take k) = (l.take j, (framesB (l.take j)).length) ∧ (framesB (l.take j)).length ≤ k ∧ (∀ hj : j < l.length, k < (framesB (l.take j)).length + (wrapB (putB l[j])).length) ∧ (j = l.length → k = (framesB l).length) := by
  obtain ⟨j, post, h1, h2⟩ := torn_cut l k hk
  have hlen : k = (framesB (l.take j)).length + post.length := by
    have := congrArg List.length h1
    rw [List.length_take, List.length_append] at this
    omega
  have hjl : j ≤ l.length := by rcases h2 with ⟨hj, _⟩ | ⟨hj, _⟩ <;> omega
  have hr := readP_frames (bs := (framesB l).take k) (l := l.take j) (post := post) (by rw [List.length_take]; omega) (all_take j hm) (fun e he => hw e (List.mem_of_mem_take he)) h1
  have hno : openB ((framesB l).take k) (framesB (l.take j)).length = none := by
    cases ho : openB ((framesB l).take k) (framesB (l.take j)).length with
    | none => rfl
    | some pe =>
      obtain ⟨p, e⟩ := pe
      exfalso
      obtain ⟨he1, he2, post', hp⟩ := openB_back ho
      rw [h1, List.drop_left] at hp
      rcases h2 with ⟨hj, more, hne, hq⟩ | ⟨_, rfl⟩
      · rw [hp] at hq
        have hme : mayE l[j] = true := by
          rw [List.all_eq_true] at hm
          exact hm _ (List.getElem_mem hj)
        have hql := mayE_len hme
        have hwl := wrapB_len (putB l[j])
        have h3 := congrArg List.length hq
        rw [List.length_append, List.length_append] at h3
        have := wrapB_le p
        have hf := wrapB_free (p := p) (q := putB l[j]) (r := post' ++ more) (r' := []) (by rw [List.append_nil, ← hq, List.append_assoc]) (by omega) (by omega)
        exact hne (List.append_eq_nil_iff.1 hf.2).2
      · have := congrArg List.length hp
        rw [List.length_append] at this
        have h4 : (wrapB p).length = 0 := by simp at this; omega
        simp [wrapB, four] at h4
  rw [readL_none hno] at hr
  refine ⟨j, hjl, hr, by omega, fun hj => ?_, fun hj => ?_⟩
  · rcases h2 with ⟨_, more, hne, hq⟩ | ⟨h, _⟩
    · rw [← hq, List.length_append]
      have : 0 < more.length := List.length_pos_iff.2 hne
      omega
    · omega
  · rcases h2 with ⟨h, _⟩ | ⟨_, hp⟩
    · omega
    · rw [hp] at hlen
      rw [hj, List.take_length] at hlen
      simpa using hlen
end Go.Proofs.YtbohejffelipoaaGreatDoor


/-
  slices.Delete of one element at a slice of unknown capacity. No conditions.
-/
namespace Go.Proofs.YtbohejffelipoaaGreatDoor
open Go Go.Abs Go.Abs.F
set_option linter.unusedVariables false
abbrev zI : List S := [.int .i64 0, .int .i64 0, .int .i64 0, .int .i64 0, .int .u32 0]

theorem aBounds_lhm {len cap lo hi m : Nat} (h : lo ≤ hi) (k : hi ≤ m) (l : m ≤ cap) : aBounds len cap (some (I .i64 lo)) (some (I .i64 hi)) (some (I .i64 m)) = some (lo, hi, m) := by
  have e : ∀ {a b : Nat}, a ≤ b → aBnd (I .i64 a) b = some a := fun {a b} h => by
    have h1 : (a : Int) ≤ (b : Int) := by omega
    simp [aBnd, h]
  delta aBounds
  dsimp only
  rw [e l]
  dsimp only
  rw [e k]
  dsimp only
  rw [e h]

theorem del_sound : CallSound Tryz.prog (delP 136 5 zI) := by
  refine grown_sound (plain_sound Tryz.prog 8 1) ?_
  intro f ts σ r h
  unfold delP at h
  split at h
  · cases h
  · rename_i hf
    have hf' := Nat.eq_of_beq_eq_true hf
    subst hf'
    split at h
    · rename_i i o n q a b
      split at h
      · rename_i vs hb
        split at h
        · rename_i hd
          have hd' := of_decide_eq_true hd
          obtain ⟨rfl, ha, rfl, hbn, hn, hv⟩ := hd'
          cases h
          obtain ⟨k, rfl⟩ : ∃ k : Nat, a = k := ⟨a.toNat, by omega⟩
          refine ⟨i, o, n, 5, n - 1, _, _, _, rfl, hb, rfl, fun c hc => ?_⟩
          have hkn : k + 1 ≤ n := by omega
          rw [Int.toNat_natCast]
          rw [(runQ_body rfl Tryz.func136 (by kernel_rfl)).trans (f136_eq _ _ _ _ _ _)]
          unfold f136
          have ek : ((k : Nat) : Int) + 1 = ((k + 1 : Nat) : Int) := by omega
          rw [ek]
          have p1 : aPieceSl 5 (Z (.sl i o n (.known c))) (some (I .i64 ((k : Nat) : Int))) (some (I .i64 ((k + 1 : Nat) : Int))) (some (I .i64 ((n : Nat) : Int))) = some (Z (.sl i (if n = k then o else o + k * 5) (k + 1 - k) (.known (n - k)))) := by
            simp only [aPieceSl, aBounds_lhm (show k ≤ k + 1 by omega) hkn hc]
          have p2 : aPieceSl 5 (Z (.sl i o n (.known c))) none (some (I .i64 ((k : Nat) : Int))) none = some (Z (.sl i o k (.known c))) := by
            simp only [aPieceSl, aBounds_hi (show k ≤ c by omega), Nat.zero_mul, Nat.add_zero, ite_self, Nat.sub_zero]
          have p3 : aPieceSl 5 (Z (.sl i o n (.known c))) (some (I .i64 ((k + 1 : Nat) : Int))) none none = some (Z (.sl i (if c = k + 1 then o else o + (k + 1) * 5) (n - (k + 1)) (.known (c - (k + 1))))) := by
            simp only [aPieceSl, aBounds_lo hkn hc]
          have src : aSrc 5 (Z (.sl i (if c = k + 1 then o else o + (k + 1) * 5) (n - (k + 1)) (.known (c - (k + 1))))) σ.get = some (n - (k + 1), (vs.drop (o + (k + 1) * 5)).take ((n - 1 - k) * 5)) := by
            by_cases hz : n - (k + 1) = 0
            · have : n - 1 - k = 0 := by omega
              simp [aSrc, hz, this]
            · have h1 : ¬ c = k + 1 := by omega
              have h2 : o + (k + 1) * 5 + (n - (k + 1)) * 5 ≤ vs.length := by omega
              have h3 : n - 1 - k = n - (k + 1) := by omega
              simp only [aSrc, if_neg hz, if_neg h1, hb, if_pos h2, h3]
          obtain ⟨v1, hv1⟩ : ∃ v1, v1 = setRange vs (o + k * 5) ((vs.drop (o + (k + 1) * 5)).take ((n - 1 - k) * 5)) := ⟨_, rfl⟩
          have hl1 : v1.length = vs.length := by rw [hv1, setRange_length]
          have ap : aAppend 5 40 (Z (.sl i o k (.known c))) (Z (.sl i (if c = k + 1 then o else o + (k + 1) * 5) (n - (k + 1)) (.known (c - (k + 1))))) σ = some (Z (.sl i o (n - 1) (.known c)), σ.set i (.cells true v1)) := by
            have h1 : (n - 1) * 40 ≤ 140737488355328 := by omega
            have h2 : n - 1 ≤ c := by omega
            have h3 : True ∧ o + k * 5 + (n - (k + 1)) * 5 ≤ vs.length := ⟨trivial, by omega⟩
            have h4 : k + (n - (k + 1)) = n - 1 := by omega
            simp only [aAppend, src, if_neg (show ¬ (5 : Nat) = 0 by decide), hb, h4]
            rw [if_pos h1, if_pos h2, if_pos h3, hv1]
          have p4 : aPieceSl 5 (Z (.sl i o (n - 1) (.known c))) (some (I .i64 ((n - 1 : Nat) : Int))) (some (I .i64 ((n : Nat) : Int))) none = some (Z (.sl i (o + (n - 1) * 5) (n - (n - 1)) (.known (c - (n - 1))))) := by
            have h1 : ¬ c = n - 1 := by omega
            simp only [aPieceSl, aBounds_lh (show n - 1 ≤ n by omega) hc, if_neg h1]
          have cl : aClear 5 zI (Z (.sl i (o + (n - 1) * 5) (n - (n - 1)) (.known (c - (n - 1))))) (σ.set i (.cells true v1)) = some (tt, (σ.set i (.cells true v1)).set i (.cells true (setRange v1 (o + (n - 1) * 5) zI))) := by
            have h1 : n - (n - 1) = 1 := by omega
            have h2 : o + (n - 1) * 5 + 1 * 5 ≤ v1.length := by omega
            simp only [aClear, h1, if_neg (show ¬ (1 : Nat) = 0 by decide), St.get_set_same, if_pos h2]
            rfl
          have le1 : aLenSl (Z (.sl i o n (.known c))) = some (I .i64 ((n : Nat) : Int)) := rfl
          have le2 : aLenSl (Z (.sl i o (n - 1) (.known c))) = some (I .i64 ((n - 1 : Nat) : Int)) := rfl
          simp only [zI] at cl ⊢
          clear hc hn hbn hv hkn ha
          have nk : ¬ (((k : Nat) : Int) = ((k + 1 : Nat) : Int)) := by omega
          rw [← hv1]
          generalize ((n - 1 : Nat) : Int) = N1 at *
          generalize ((n : Nat) : Int) = NN at *
          generalize ((k + 1 : Nat) : Int) = K1 at *
          generalize ((k : Nat) : Int) = K at *
          simp only [le1, le2, bd_some, p1, eql_int, decide_eq_false nk, br_false, p2, p3, ap, bd2_some, p4, cl]
        · cases h
      · cases h
    · cases h
end Go.Proofs.YtbohejffelipoaaGreatDoor


/-
  slices.Insert of one element ahead of another at a slice of unknown capacity. No conditions.
-/
namespace Go.Proofs.YtbohejffelipoaaGreatDoor
open Go Go.Abs Go.Abs.F
set_option linter.unusedVariables false

theorem over_ok : overT Tryz.prog 177 = true := by kernel_rfl

theorem ins_grow (a w b z : List S) (hz : z.length = w.length + b.length) : setRange (setRange (a ++ z) a.length w) (a.length + w.length) b = a ++ w ++ b := by
  rw [setRange_eq (a ++ z) a.length w (by simp; omega), List.take_left, setRange_eq _ _ b (by simp; omega)]
  rw [List.take_left' (by simp), List.drop_eq_nil_of_le (by simp; omega), List.append_nil]

theorem ins_room (a w b r : List S) (hr : w.length ≤ r.length) : (setRange (setRange (a ++ b ++ r) (a.length + w.length) b) a.length w).take (a.length + w.length + b.length) = a ++ w ++ b := by
  have hX : ∃ q, setRange (a ++ b ++ r) (a.length + w.length) b = a ++ (q ++ b ++ r.drop w.length) ∧ q.length = w.length := by
    refine ⟨(b ++ r).take w.length, ?_, by simp; omega⟩
    rw [setRange_eq _ _ b (by simp; omega), List.append_assoc a b r, List.take_append, List.drop_append]
    have e1 : a.take (a.length + w.length) = a := List.take_of_length_le (by omega)
    have e2 : a.drop (a.length + w.length + b.length) = [] := List.drop_eq_nil_of_le (by omega)
    have e3 : a.length + w.length + b.length - a.length = b.length + w.length := by omega
    rw [e1, e2, e3, Nat.add_sub_cancel_left, List.nil_append, List.drop_append, List.drop_eq_nil_of_le (by omega), List.nil_append, Nat.add_sub_cancel_left]
    simp only [List.append_assoc]
  obtain ⟨q, hq, hl⟩ := hX
  rw [hq, setRange_eq _ _ w (by simp; omega), List.take_left, List.drop_append, List.drop_eq_nil_of_le (by omega), List.nil_append, Nat.add_sub_cancel_left, List.append_assoc q, List.drop_left' hl, ← List.append_assoc (a ++ w), List.take_left' (by simp; omega)]

section
variable {σ : St} {i j p n k c : Nat} {vs us : List S}

theorem ins_facts (hkn : k < n) (hn : n ≤ 1000000) :
    aBin .eql (I .i64 1) (I .i64 0) = some (B false) ∧ aBin .eql (I .i64 ((k : Nat) : Int)) (I .i64 ((n : Nat) : Int)) = some (B false) ∧ aBin .add (I .i64 ((n : Nat) : Int)) (I .i64 1) = some (I .i64 ((n + 1 : Nat) : Int)) ∧
      aBin .add (I .i64 ((k : Nat) : Int)) (I .i64 1) = some (I .i64 ((k + 1 : Nat) : Int)) ∧ aBin .sub (I .i64 ((n + 1 : Nat) : Int)) (I .i64 ((k : Nat) : Int)) = some (I .i64 ((n + 1 - k : Nat) : Int)) := by
  have h1 : ¬ (((k : Nat) : Int) = ((n : Nat) : Int)) := by omega
  have h2 : IntKind.i64.wrap ((n : Int) + 1) = ((n + 1 : Nat) : Int) := by rw [wrap_in _ (by omega) (by omega)]; omega
  have h3 : IntKind.i64.wrap ((k : Int) + 1) = ((k + 1 : Nat) : Int) := by rw [wrap_in _ (by omega) (by omega)]; omega
  have h4 : IntKind.i64.wrap (((n + 1 : Nat) : Int) - (k : Int)) = ((n + 1 - k : Nat) : Int) := by rw [wrap_in _ (by omega) (by omega)]; omega
  refine ⟨rfl, ?_, ?_, ?_, ?_⟩
  · rw [eql_int, decide_eq_false h1]
  · rw [add_int, h2]
  · rw [add_int, h3]
  · rw [sub_int, h4]

theorem insN_run (d : Nat) (wf : σ.wf) (hi : σ.get i = some (.cells true vs)) (hj : σ.get j = some (.cells true us)) (hkn : k < n) (hn : n ≤ 1000000) (hv : n * 5 ≤ vs.length) (hij : i ≠ j) (hp : p + 5 ≤ us.length) :
    ∃ τ, f135 (runQ Tryz.prog 8 noPrim d) 8 (Z (.sl i 0 n (.known n))) (I .i64 k) (Z (.sl j p 1 (.known 1))) σ = some (Z (.sl σ.size 0 (n + 1) (.grown 5)), τ) ∧ τ.size = σ.size + 1 ∧
      τ.get σ.size = some (.cells true (vs.take (k * 5) ++ (us.drop p).take 5 ++ (vs.drop (k * 5)).take ((n - k) * 5))) ∧ ∀ b, b < σ.size → τ.get b = σ.get b := by
  obtain ⟨f1, f2, f3, f4, f5⟩ := ins_facts hkn hn
  obtain ⟨N, hN⟩ : ∃ N, N = σ.size := ⟨_, rfl⟩
  obtain ⟨a, ha⟩ : ∃ a, a = vs.take (k * 5) := ⟨_, rfl⟩
  obtain ⟨w, hw⟩ : ∃ w, w = (us.drop p).take 5 := ⟨_, rfl⟩
  obtain ⟨b, hb⟩ : ∃ b, b = (vs.drop (k * 5)).take ((n - k) * 5) := ⟨_, rfl⟩
  have hla : a.length = k * 5 := by rw [ha, List.length_take]; omega
  have hlw : w.length = 5 := by rw [hw]; simp; omega
  have hlb : b.length = (n - k) * 5 := by rw [hb]; simp; omega
  obtain ⟨z, hz⟩ : ∃ z, z = zeros (n + 1 - k) zI := ⟨_, rfl⟩
  have hlz : z.length = (n + 1 - k) * 5 := by rw [hz]; exact zeros_len (e := 5) rfl _
  have le0 : aLenSl (Z (.sl i 0 n (.known n))) = some (I .i64 ((n : Nat) : Int)) := rfl
  have le2 : aLenSl (Z (.sl j p 1 (.known 1))) = some (I .i64 1) := rfl
  have cp : aCap (Z (.sl i 0 n (.known n))) = some (I .i64 ((n : Nat) : Int)) := rfl
  have gt : aBin .gtr (I .i64 ((n + 1 : Nat) : Int)) (I .i64 ((n : Nat) : Int)) = some (B true) := by
    rw [gtr_int, decide_eq_true (by omega)]
  have p1 : aPieceSl 5 (Z (.sl i 0 n (.known n))) (some (I .i64 ((k : Nat) : Int))) none none = some (Z (.sl i (k * 5) (n - k) (.known (n - k)))) := by
    have h1 : ¬ n = k := by omega
    simp only [aPieceSl, aBounds_lo (show k ≤ n by omega) (Nat.le_refl n), if_neg h1, Nat.zero_add]
  have p2 : aPieceSl 5 (Z (.sl i 0 n (.known n))) none (some (I .i64 ((k : Nat) : Int))) none = some (Z (.sl i 0 k (.known n))) := by
    simp only [aPieceSl, aBounds_hi (show k ≤ n by omega), Nat.zero_mul, Nat.add_zero, ite_self, Nat.sub_zero]
  obtain ⟨s1, hs1⟩ : ∃ s1, s1 = σ.push (.cells true (a ++ z)) := ⟨_, rfl⟩
  have gr : aGrow 5 40 [.int .i64 0, .int .i64 0, .int .i64 0, .int .i64 0, .int .u32 0] (Z (.sl i 0 k (.known n))) (I .i64 ((n + 1 - k : Nat) : Int)) σ = some (Z (.sl N 0 (n + 1) (.grown 5)), s1) := by
    have h1 : 0 < ((n + 1 - k : Nat) : Int) ∧ k ≤ n ∧ n < k + ((n + 1 - k : Nat) : Int).toNat ∧ (k + ((n + 1 - k : Nat) : Int).toNat) * 40 ≤ 140737488355328 ∧ (5 : Nat) ≠ 0 ∧ 0 + k * 5 ≤ vs.length := by
      rw [Int.toNat_natCast]
      refine ⟨by omega, by omega, by omega, by omega, by decide, by omega⟩
    have h2 : k + ((n + 1 - k : Nat) : Int).toNat = n + 1 := by omega
    simp only [aGrow, hi]
    rw [if_pos h1, h2, Int.toNat_natCast, List.drop_zero, ← ha, hs1, hz, hN]
  have g1 : s1.get N = some (.cells true (a ++ z)) := by rw [hs1, hN]; exact St.get_push_same _ _
  have o1 : ∀ q, q ≠ N → s1.get q = σ.get q := fun q hq => by rw [hs1]; exact St.get_push_ne _ _ (by rw [← hN]; exact hq)
  have p3 : aPieceSl 5 (Z (.sl N 0 (n + 1) (.grown 5))) (some (I .i64 ((k : Nat) : Int))) none none = some (Z (.sl N (k * 5) (n + 1 - k) (.grown 5))) := by
    simp only [aPieceSl, aBounds_lo (show k ≤ n + 1 by omega) (Nat.le_refl (n + 1)), if_pos trivial, if_pos (show k < n + 1 by omega), Nat.zero_add]
  have p4 : aPieceSl 5 (Z (.sl N 0 (n + 1) (.grown 5))) (some (I .i64 ((k + 1 : Nat) : Int))) none none = some (Z (.sl N ((k + 1) * 5) (n - k) (.grown 5))) := by
    have h1 : n + 1 - (k + 1) = n - k := by omega
    simp only [aPieceSl, aBounds_lo (show k + 1 ≤ n + 1 by omega) (Nat.le_refl (n + 1)), if_pos trivial, if_pos (show k + 1 < n + 1 by omega), Nat.zero_add, h1]
  have jN : j ≠ N := by have := wf.lt hj; omega
  have iN : i ≠ N := by have := wf.lt hi; omega
  have hj1 : s1.get j = some (.cells true us) := by rw [o1 j jN]; exact hj
  have src1 : aSrc 5 (Z (.sl j p 1 (.known 1))) s1.get = some (1, w) := by
    simp only [aSrc, if_neg (show ¬ (1 : Nat) = 0 by decide), hj1, Nat.one_mul, if_pos hp, hw]
  have hm1 : Nat.min 1 (n + 1 - k) = 1 := by show min 1 (n + 1 - k) = 1; omega
  obtain ⟨A1, hA1⟩ : ∃ A1, A1 = setRange (a ++ z) (k * 5) w := ⟨_, rfl⟩
  obtain ⟨s2, hs2⟩ : ∃ s2, s2 = s1.set N (.cells true A1) := ⟨_, rfl⟩
  have cy1 : aCopy 5 (Z (.sl N (k * 5) (n + 1 - k) (.grown 5))) (Z (.sl j p 1 (.known 1))) s1 = some (I .i64 ((1 : Nat) : Int), s2) := by
    have h1 : k * 5 + 1 * 5 ≤ (a ++ z).length := by simp; omega
    have h2 : w.take (1 * 5) = w := List.take_of_length_le (by omega)
    simp only [aCopy, src1, g1, hm1]
    rw [if_pos h1, h2, hs2, hA1]
  have g2 : s2.get N = some (.cells true A1) := by rw [hs2]; exact St.get_set_same _ _ _
  have hi2 : s2.get i = some (.cells true vs) := by rw [hs2, St.get_set_ne _ _ iN, o1 i iN]; exact hi
  have hnk : ¬ n - k = 0 := by omega
  have src2 : aSrc 5 (Z (.sl i (k * 5) (n - k) (.known (n - k)))) s2.get = some (n - k, b) := by
    have h1 : k * 5 + (n - k) * 5 ≤ vs.length := by omega
    simp only [aSrc, if_neg hnk, hi2, if_pos h1, hb]
  have hm2 : Nat.min (n - k) (n - k) = n - k := by show min (n - k) (n - k) = n - k; omega
  obtain ⟨A2, hA2⟩ : ∃ A2, A2 = setRange A1 ((k + 1) * 5) b := ⟨_, rfl⟩
  obtain ⟨s3, hs3⟩ : ∃ s3, s3 = s2.set N (.cells true A2) := ⟨_, rfl⟩
  have cy2 : aCopy 5 (Z (.sl N ((k + 1) * 5) (n - k) (.grown 5))) (Z (.sl i (k * 5) (n - k) (.known (n - k)))) s2 = some (I .i64 ((n - k : Nat) : Int), s3) := by
    have h1 : (k + 1) * 5 + (n - k) * 5 ≤ A1.length := by rw [hA1, setRange_length]; simp; omega
    have h2 : b.take ((n - k) * 5) = b := List.take_of_length_le (by omega)
    simp only [aCopy, src2, g2, hm2]
    rw [if_pos h1, h2, hs3, hA2]
  have hfin : A2 = a ++ w ++ b := by
    have := ins_grow a w b z (by omega)
    rw [hla, hlw] at this
    rw [hA2, hA1, Nat.add_mul, Nat.one_mul]
    exact this
  refine ⟨s3, ?_, by rw [hs3, hs2, hs1]; rfl, by rw [← hN, hs3, St.get_set_same, hfin, ha, hw, hb], fun q hq => ?_⟩
  · unfold f135
    rw [← hN]
    clear hi hj hi2 hj1 hv hp wf
    have br1 : ((1 : Nat) : Int) = 1 := rfl
    rw [br1] at cy1
    generalize n + 1 - k = M at *
    generalize ((n + 1 : Nat) : Int) = N1 at *
    generalize ((k + 1 : Nat) : Int) = K1 at *
    generalize ((M : Nat) : Int) = MI at *
    generalize ((n : Nat) : Int) = NI at *
    generalize ((k : Nat) : Int) = KI at *
    simp only [p1, le0, le2, bd_some, f1, br_false, f2, f3, cp, gt, br_true, p2, f5, gr, bd2_some, p3, cy1, f4, p4, cy2]
  · rw [hs3, hs2, St.get_set_ne _ _ (by omega), St.get_set_ne _ _ (by omega), o1 q (by omega)]

theorem insR_run (d : Nat) (hi : σ.get i = some (.cells true vs)) (hj : σ.get j = some (.cells true us)) (hkn : k < n) (hn : n ≤ 1000000) (hc : n + 1 ≤ c) (hv : vs.length = c * 5) (hij : i ≠ j) (hp : p + 5 ≤ us.length) :
    ∃ τ B, f135 (runQ Tryz.prog 8 noPrim d) 8 (Z (.sl i 0 n (.known c))) (I .i64 k) (Z (.sl j p 1 (.known 1))) σ = some (Z (.sl i 0 (n + 1) (.known c)), τ) ∧ τ.size = σ.size ∧
      τ.get i = some (.cells true B) ∧ B.length = vs.length ∧ B.take ((n + 1) * 5) = vs.take (k * 5) ++ (us.drop p).take 5 ++ (vs.drop (k * 5)).take ((n - k) * 5) ∧ ∀ b, b ≠ i → τ.get b = σ.get b := by
  obtain ⟨f1, f2, f3, f4, f5⟩ := ins_facts hkn hn
  obtain ⟨a, ha⟩ : ∃ a, a = vs.take (k * 5) := ⟨_, rfl⟩
  obtain ⟨w, hw⟩ : ∃ w, w = (us.drop p).take 5 := ⟨_, rfl⟩
  obtain ⟨b, hb⟩ : ∃ b, b = (vs.drop (k * 5)).take ((n - k) * 5) := ⟨_, rfl⟩
  obtain ⟨r, hr⟩ : ∃ r, r = vs.drop (n * 5) := ⟨_, rfl⟩
  have hla : a.length = k * 5 := by rw [ha, List.length_take]; omega
  have hlw : w.length = 5 := by rw [hw]; simp; omega
  have hlb : b.length = (n - k) * 5 := by rw [hb]; simp; omega
  have hlr : 5 ≤ r.length := by rw [hr]; simp; omega
  have hvs : vs = a ++ b ++ r := by
    have h1 : vs.drop (k * 5) = b ++ r := by
      rw [hb, hr]
      have : n * 5 = k * 5 + (n - k) * 5 := by omega
      rw [this, ← List.drop_drop]
      exact (List.take_append_drop _ _).symm
    rw [List.append_assoc, ← h1, ha]
    exact (List.take_append_drop _ _).symm
  have le0 : aLenSl (Z (.sl i 0 n (.known c))) = some (I .i64 ((n : Nat) : Int)) := rfl
  have le2 : aLenSl (Z (.sl j p 1 (.known 1))) = some (I .i64 1) := rfl
  have cp : aCap (Z (.sl i 0 n (.known c))) = some (I .i64 ((c : Nat) : Int)) := rfl
  have gt : aBin .gtr (I .i64 ((n + 1 : Nat) : Int)) (I .i64 ((c : Nat) : Int)) = some (B false) := by
    rw [gtr_int, decide_eq_false (by omega)]
  have p0 : aPieceSl 5 (Z (.sl i 0 n (.known c))) (some (I .i64 ((k : Nat) : Int))) none none = some (Z (.sl i (k * 5) (n - k) (.known (c - k)))) := by
    have h1 : ¬ c = k := by omega
    simp only [aPieceSl, aBounds_lo (show k ≤ n by omega) (show n ≤ c by omega), if_neg h1, Nat.zero_add]
  have p1 : aPieceSl 5 (Z (.sl i 0 n (.known c))) none (some (I .i64 ((n + 1 : Nat) : Int))) none = some (Z (.sl i 0 (n + 1) (.known c))) := by
    simp only [aPieceSl, aBounds_hi hc, Nat.zero_mul, Nat.add_zero, ite_self, Nat.sub_zero]
  have p2 : aPieceSl 5 (Z (.sl i 0 (n + 1) (.known c))) (some (I .i64 ((k + 1 : Nat) : Int))) none none = some (Z (.sl i ((k + 1) * 5) (n - k) (.known (c - (k + 1))))) := by
    have h1 : ¬ c = k + 1 := by omega
    have h2 : n + 1 - (k + 1) = n - k := by omega
    simp only [aPieceSl, aBounds_lo (show k + 1 ≤ n + 1 by omega) hc, if_neg h1, Nat.zero_add, h2]
  have p3 : aPieceSl 5 (Z (.sl i 0 (n + 1) (.known c))) (some (I .i64 ((k : Nat) : Int))) none none = some (Z (.sl i (k * 5) (n + 1 - k) (.known (c - k)))) := by
    have h1 : ¬ c = k := by omega
    simp only [aPieceSl, aBounds_lo (show k ≤ n + 1 by omega) hc, if_neg h1, Nat.zero_add]
  have ov : xOver Tryz.prog 177 [Z (.sl j p 1 (.known 1)), Z (.sl i ((k + 1) * 5) (n - k) (.known (c - (k + 1))))] σ = some (B false, σ) := by
    have h1 : Nat.beq j i = false := by
      cases h : Nat.beq j i with
      | false => rfl
      | true => exact absurd (Nat.eq_of_beq_eq_true h).symm hij
    simp only [xOver, aOver, hi, hj, h1, over_ok]
  have no : aUn .not (B false) = some (B true) := rfl
  have src1 : aSrc 5 (Z (.sl i (k * 5) (n + 1 - k) (.known (c - k)))) σ.get = some (n + 1 - k, (vs.drop (k * 5)).take ((n + 1 - k) * 5)) := by
    have h1 : k * 5 + (n + 1 - k) * 5 ≤ vs.length := by omega
    simp only [aSrc, if_neg (show ¬ n + 1 - k = 0 by omega), hi, if_pos h1]
  have hm1 : Nat.min (n + 1 - k) (n - k) = n - k := by show min (n + 1 - k) (n - k) = n - k; omega
  have hbt : ((vs.drop (k * 5)).take ((n + 1 - k) * 5)).take ((n - k) * 5) = b := by
    rw [List.take_take, hb]
    congr 1; omega
  obtain ⟨A1, hA1⟩ : ∃ A1, A1 = setRange vs ((k + 1) * 5) b := ⟨_, rfl⟩
  obtain ⟨s1, hs1⟩ : ∃ s1, s1 = σ.set i (.cells true A1) := ⟨_, rfl⟩
  have cy1 : aCopy 5 (Z (.sl i ((k + 1) * 5) (n - k) (.known (c - (k + 1))))) (Z (.sl i (k * 5) (n + 1 - k) (.known (c - k)))) σ = some (I .i64 ((n - k : Nat) : Int), s1) := by
    have h1 : (k + 1) * 5 + (n - k) * 5 ≤ vs.length := by omega
    simp only [aCopy, src1, hi, hm1]
    rw [if_pos h1, hbt, hs1, hA1]
  have g1 : s1.get i = some (.cells true A1) := by rw [hs1]; exact St.get_set_same _ _ _
  have hj1 : s1.get j = some (.cells true us) := by rw [hs1, St.get_set_ne _ _ (fun h => hij h.symm)]; exact hj
  have src2 : aSrc 5 (Z (.sl j p 1 (.known 1))) s1.get = some (1, w) := by
    simp only [aSrc, if_neg (show ¬ (1 : Nat) = 0 by decide), hj1, Nat.one_mul, if_pos hp, hw]
  have hm2 : Nat.min 1 (n + 1 - k) = 1 := by show min 1 (n + 1 - k) = 1; omega
  obtain ⟨A2, hA2⟩ : ∃ A2, A2 = setRange A1 (k * 5) w := ⟨_, rfl⟩
  obtain ⟨s2, hs2⟩ : ∃ s2, s2 = s1.set i (.cells true A2) := ⟨_, rfl⟩
  have hl1 : A1.length = vs.length := by rw [hA1, setRange_length]
  have cy2 : aCopy 5 (Z (.sl i (k * 5) (n + 1 - k) (.known (c - k)))) (Z (.sl j p 1 (.known 1))) s1 = some (I .i64 ((1 : Nat) : Int), s2) := by
    have h1 : k * 5 + 1 * 5 ≤ A1.length := by omega
    have h2 : w.take (1 * 5) = w := List.take_of_length_le (by omega)
    simp only [aCopy, src2, g1, hm2]
    rw [if_pos h1, h2, hs2, hA2]
  have hfin : A2.take ((n + 1) * 5) = a ++ w ++ b := by
    have := ins_room a w b r (by omega)
    rw [← hvs, hla, hlw, hlb] at this
    have e1 : k * 5 + 5 = (k + 1) * 5 := by omega
    have e2 : (k + 1) * 5 + (n - k) * 5 = (n + 1) * 5 := by omega
    rw [e1, e2] at this
    rw [hA2, hA1]
    exact this
  refine ⟨s2, A2, ?_, by rw [hs2, hs1]; simp, by rw [hs2]; exact St.get_set_same _ _ _, by rw [hA2, setRange_length, hl1], by rw [hfin, ha, hw, hb], fun q hq => by rw [hs2, hs1, St.get_set_ne _ _ hq, St.get_set_ne _ _ hq]⟩
  unfold f135
  clear hi hj hj1 hv hp
  have br1 : ((1 : Nat) : Int) = 1 := rfl
  rw [br1] at cy2
  generalize ((n - k : Nat) : Int) = NK at *
  generalize ((n + 1 : Nat) : Int) = N1 at *
  generalize ((k + 1 : Nat) : Int) = K1 at *
  generalize ((c : Nat) : Int) = CI at *
  generalize ((n : Nat) : Int) = NI at *
  generalize ((k : Nat) : Int) = KI at *
  simp only [p0, le0, le2, bd_some, f1, br_false, f2, f3, cp, gt, p1, f4, p2, ov, bd2_some, no, br_true, p3, cy1, cy2]
end

theorem ins_sound : CallSound Tryz.prog (insP 135 5) := by
  have body : ∀ (a0 a1 a2 : T) (σ : St), runQ Tryz.prog 8 noPrim 1 135 [a0, a1, a2] σ = f135 (runQ Tryz.prog 8 noPrim 0) 8 a0 a1 a2 σ := fun a0 a1 a2 σ =>
    (runQ_body rfl Tryz.func135 (by kernel_rfl)).trans (f135_eq _ _ _ _ _ _)
  refine Go.Abs.F.ins_sound (plain_sound Tryz.prog 8 1) ?_ ?_
  · intro σ i n k j p vs us wf h1 h2 h3 h4 h5 h6 h7
    obtain ⟨τ, e1, e2⟩ := insN_run 0 wf h1 h2 h3 h4 h5 h6 h7
    exact ⟨τ, (body _ _ _ _).trans e1, e2⟩
  · intro σ i n k j p c vs us h1 h2 h3 h4 h5 h6 h7 h8
    obtain ⟨τ, B, e1, e2⟩ := insR_run 0 h1 h2 h3 h4 h5 h6 h7 h8
    exact ⟨τ, B, (body _ _ _ _).trans e1, e2⟩
end Go.Proofs.YtbohejffelipoaaGreatDoor


/-
  Lists of segments in a store: search, insertion, removal. No conditions but those named in each line.
-/
namespace Go.Proofs.YtbohejffelipoaaGreatDoor
open Go Go.Abs Go.Abs.F
set_option linter.unusedVariables false

structure Inf where
  i : Int
  t : Int
  f : Int
  o : Int
  u : Int
  deriving DecidableEq
def cI (x : Inf) : List S := [.int .i64 x.i, .int .i64 x.t, .int .i64 x.f, .int .i64 x.o, .int .u32 x.u]
abbrev AI (x : Inf) : T := .v (.agg (cI x))
theorem cI_len (x : Inf) : (cI x).length = 5 := rfl

def InS (s : St) (x : S) (l : List Inf) : Prop := (x = .nils ∧ l = []) ∨ ∃ c vs, x = .sl c 0 l.length (.grown 5) ∧ s.get c = some (.cells true vs) ∧ vs.take (l.length * 5) = cells cI l

section
variable {s t : St} {x : S} {l : List Inf}

theorem InS.rd (h : InS s x l) : Rd 5 s x l.length (cells cI l) := by
  rcases h with ⟨rfl, rfl⟩ | ⟨c, vs, rfl, hb, ht⟩
  · exact Rd.nil 5 s
  · have hl := cells_len (e := 5) cI_len l
    refine ⟨hl, .inr ⟨c, 0, _, true, vs, rfl, hb, ?_, by rw [List.drop_zero]; exact ht⟩, rfl⟩
    have := congrArg List.length ht
    rw [List.length_take, hl] at this
    omega

theorem InS.keep (h : InS s x l) (hk : ∀ c, own x = some c → t.get c = s.get c) : InS t x l := by
  rcases h with ⟨rfl, rfl⟩ | ⟨c, vs, rfl, hb, ht⟩
  · exact .inl ⟨rfl, rfl⟩
  · exact .inr ⟨c, vs, rfl, by rw [hk c rfl]; exact hb, ht⟩

theorem InS.lt (h : InS s x l) (wf : s.wf) {c : Nat} (hc : own x = some c) : c < s.size := by
  rcases h with ⟨rfl, rfl⟩ | ⟨d, vs, rfl, hb, ht⟩
  · cases hc
  · cases hc; exact wf.lt hb

theorem InS.atI (h : InS s x l) {j : Nat} {n : Int} {a : Inf} (hn : n = j) (ha : l[j]? = some a) : ∃ p, aIndexSl 5 (Z x) (I .i64 n) = some p ∧ aLoadN 5 p s.get = some (AI a) := by
  obtain ⟨c, p, h1, _, h3⟩ := Rd.at h.rd hn (List.getElem?_eq_some_iff.1 ha).1
  rw [cells_row cI_len ha] at h3
  exact ⟨_, h1, h3⟩

def cmpI (id : Int) (a : Inf) : Int := IntKind.i64.wrap (a.i - id)

theorem cmpI_in {id : Int} {a : Inf} (h0 : 0 ≤ id) (h1 : id ≤ 1073741824) (h2 : 0 ≤ a.i) (h3 : a.i ≤ 1073741824) : cmpI id a = a.i - id := wrap_in _ (by omega) (by omega)

theorem cmp_run (d : Nat) (wf : s.wf) (a : Inf) (id : Int) : ∃ t, R (d + 1) 176 [AI a, I .i64 id] s = some (I .i64 (cmpI id a), t) ∧ Gr s t := by
  rw [f176_run]
  unfold f176
  obtain ⟨s1, hs1⟩ : ∃ s1, s1 = s.push (.cells true (cI a)) := ⟨_, rfl⟩
  have nw : aNew s (nBox (AI a)) = some (Z (.ptr s.size 0), s1) := by rw [hs1]; rfl
  have fa : aFieldAddr 0 (Z (.ptr s.size 0)) = some (Z (.ptr s.size 0)) := rfl
  have ld : aLoad1 (Z (.ptr s.size 0)) s1.get = some (I .i64 a.i) := aLoad1_of (by rw [hs1]; exact St.get_push_same _ _) rfl
  refine ⟨s1, ?_, by rw [hs1]; exact Gr.push wf _⟩
  simp only [nw, bd2_some, fa, bd_some, ld, sub_int]
  rfl

theorem dyn_clo0 {callf : CallF} {f : Nat} {args : List T} {σ : St} (h : callable Tryz.prog f = true) : dyn Tryz.prog callf (Z (.clo f [])) args σ = callf f args σ := by
  simp only [dyn, h, if_true, List.map_nil, List.append_nil]

theorem at_callable : callable Tryz.prog 176 = true := by kernel_rfl

structure Found (l : List Inf) (id : Int) (k : Nat) : Prop where
  le : k ≤ l.length
  low : (∀ (a b : Nat) (x y : Inf), a < b → l[a]? = some x → l[b]? = some y → cmpI id y < 0 → cmpI id x < 0) → ∀ (a : Nat) (x : Inf), a < k → l[a]? = some x → cmpI id x < 0
  high : (∀ (a b : Nat) (x y : Inf), a < b → l[a]? = some x → l[b]? = some y → cmpI id y < 0 → cmpI id x < 0) → ∀ (a : Nat) (x : Inf), k ≤ a → l[a]? = some x → ¬ cmpI id x < 0

def hitI (l : List Inf) (id : Int) (k : Nat) : Bool := match l[k]? with
  | some a => decide (cmpI id a = 0)
  | none => false

set_option maxHeartbeats 1000000 in
theorem bsf_run (d : Nat) (wf : s.wf) (h : InS s x l) (hl : l.length ≤ 8000) (id : Int) : ∃ k t, R (d + 2) 175 [Z x, I .i64 id, Z (.clo 176 [])] s = some (.tup [.s (.int .i64 ((k : Nat) : Int)), .s (.bool (hitI l id k))], t) ∧ Gr s t ∧ Found l id k := by
  rw [f175_run]
  unfold f175
  have ll := h.rd.lens
  have dy : ∀ (u : St) (a : Inf), u.wf → ∃ t, dyn Tryz.prog (R (d + 1)) (Z (.clo 176 [])) [AI a, I .i64 id] u = some (I .i64 (cmpI id a), t) ∧ Gr u t := fun u a hu => by
    obtain ⟨t, e, g⟩ := cmp_run d hu a id
    exact ⟨t, by rw [dyn_clo0 at_callable]; exact e, g⟩
  obtain ⟨Mono, hM⟩ : ∃ Mono, Mono = ∀ (a b : Nat) (x y : Inf), a < b → l[a]? = some x → l[b]? = some y → cmpI id y < 0 → cmpI id x < 0 := ⟨_, rfl⟩
  obtain ⟨j, τ, lp, hj⟩ := loops_inv (f := f175_l1 (R (d + 1)) 8192)
    (fun q v u => ∃ lo hi : Nat, hi - lo ≤ q ∧ lo ≤ hi ∧ hi ≤ l.length ∧ v = [Z x, I .i64 id, Z (.clo 176 []), I .i64 ((l.length : Nat) : Int), I .i64 ((lo : Nat) : Int), I .i64 ((hi : Nat) : Int)] ∧ Gr s u ∧
      (Mono → (∀ (a : Nat) (y : Inf), a < lo → l[a]? = some y → cmpI id y < 0) ∧ ∀ (a : Nat) (y : Inf), hi ≤ a → l[a]? = some y → ¬ cmpI id y < 0))
    (fun j u => ∃ k : Nat, j = .exit 0 [Z x, I .i64 id, Z (.clo 176 []), I .i64 ((l.length : Nat) : Int), I .i64 ((k : Nat) : Int)] ∧ k ≤ l.length ∧ Gr s u ∧
      (Mono → (∀ (a : Nat) (y : Inf), a < k → l[a]? = some y → cmpI id y < 0) ∧ ∀ (a : Nat) (y : Inf), k ≤ a → l[a]? = some y → ¬ cmpI id y < 0)) (by
    rintro q v u ⟨lo, hi, hq, hlh, hhl, rfl, g, hinv⟩
    by_cases hlt : lo < hi
    · left
      obtain ⟨m, hm⟩ : ∃ m, m = (lo + hi) / 2 := ⟨_, rfl⟩
      have hm1 : lo ≤ m := by omega
      have hm2 : m < hi := by omega
      have hget : l[m]? = some l[m] := List.getElem?_eq_getElem (by omega)
      obtain ⟨y, hy⟩ : ∃ y, y = l[m] := ⟨_, rfl⟩
      rw [← hy] at hget
      have hu := h.keep (t := u) fun c hc => g.2.2 c (h.lt wf hc)
      obtain ⟨p, ix, ld⟩ := hu.atI (n := ((m : Nat) : Int)) rfl hget
      obtain ⟨t1, dy1, g1⟩ := dy u y g.wf
      have c0 : ((lo : Nat) : Int) < ((hi : Nat) : Int) := by omega
      have a1 : IntKind.i64.wrap ((lo : Int) + (hi : Int)) = ((lo + hi : Nat) : Int) := by rw [wrap_in _ (by omega) (by omega)]; omega
      have a2 : aConv .u64 (I .i64 ((lo + hi : Nat) : Int)) = some (I .u64 ((lo + hi : Nat) : Int)) := by
        show some (I .u64 (IntKind.u64.wrap ((lo + hi : Nat) : Int))) = _
        rw [wrap64 _ (by omega)]
      have a3 : aBin .shr (I .u64 ((lo + hi : Nat) : Int)) (I .u64 1) = some (I .u64 ((m : Nat) : Int)) := by
        have := shr_nat .u64 (lo + hi) 1 (by decide)
        rw [hm]
        exact this
      have a4 : aConv .i64 (I .u64 ((m : Nat) : Int)) = some (I .i64 ((m : Nat) : Int)) := by
        show some (I .i64 (IntKind.i64.wrap ((m : Nat) : Int))) = _
        rw [wrapi _ (by omega)]
      have w1 : IntKind.i64.wrap ((m : Int) + 1) = ((m + 1 : Nat) : Int) := by rw [wrap_in _ (by omega) (by omega)]; omega
      by_cases hc : cmpI id y < 0
      · refine ⟨[Z x, I .i64 id, Z (.clo 176 []), I .i64 ((l.length : Nat) : Int), I .i64 ((m + 1 : Nat) : Int), I .i64 ((hi : Nat) : Int)], t1, q - 1, ?_, by omega, m + 1, hi, by omega, by omega, hhl, rfl, g.trans g1, fun hmo => ⟨fun a z ha hz => ?_, (hinv hmo).2⟩⟩
        · unfold f175_l1
          generalize R (d + 1) = r at *
          generalize ((lo + hi : Nat) : Int) = LH at *
          generalize ((m + 1 : Nat) : Int) = M1 at *
          generalize ((m : Nat) : Int) = M at *
          generalize ((hi : Nat) : Int) = HI at *
          generalize ((lo : Nat) : Int) = LO at *
          generalize ((l.length : Nat) : Int) = LL at *
          simp [c0, a1, a2, a3, a4, ix, ld, dy1, hc, w1]
        · by_cases e : a = m
          · subst e; rw [hget] at hz; cases hz; exact hc
          · rw [hM] at hmo; exact hmo a m z y (by omega) hz hget hc
      · refine ⟨[Z x, I .i64 id, Z (.clo 176 []), I .i64 ((l.length : Nat) : Int), I .i64 ((lo : Nat) : Int), I .i64 ((m : Nat) : Int)], t1, q - 1, ?_, by omega, lo, m, by omega, by omega, by omega, rfl, g.trans g1, fun hmo => ⟨(hinv hmo).1, fun a z ha hz hz0 => ?_⟩⟩
        · unfold f175_l1
          generalize R (d + 1) = r at *
          generalize ((lo + hi : Nat) : Int) = LH at *
          generalize ((m + 1 : Nat) : Int) = M1 at *
          generalize ((m : Nat) : Int) = M at *
          generalize ((hi : Nat) : Int) = HI at *
          generalize ((lo : Nat) : Int) = LO at *
          generalize ((l.length : Nat) : Int) = LL at *
          simp [c0, a1, a2, a3, a4, ix, ld, dy1, hc]
        · by_cases e : a = m
          · subst e; rw [hget] at hz; cases hz; exact hc hz0
          · rw [hM] at hmo; exact hc (hmo m a y z (by omega) hget hz hz0)
    · right
      have hll : lo = hi := by omega
      subst hll
      refine ⟨_, u, ?_, (fun v hv => by cases hv), lo, rfl, hhl, g, hinv⟩
      have c0 : ¬ ((lo : Nat) : Int) < ((lo : Nat) : Int) := by omega
      unfold f175_l1
      simp [c0]) 8192 l.length [Z x, I .i64 id, Z (.clo 176 []), I .i64 ((l.length : Nat) : Int), I .i64 0, I .i64 ((l.length : Nat) : Int)] s
    ⟨0, l.length, by omega, by omega, by omega, rfl, Gr.refl wf, fun _ => ⟨fun a y ha => by omega, fun a y ha hy => by have := (List.getElem?_eq_some_iff.1 hy).1; omega⟩⟩ (by omega)
  obtain ⟨k, rfl, hk, g, hinv⟩ := hj
  rw [hM] at hinv
  have hF : Found l id k := ⟨hk, fun m => (hinv m).1, fun m => (hinv m).2⟩
  by_cases hkl : k < l.length
  · have hget : l[k]? = some l[k] := List.getElem?_eq_getElem hkl
    obtain ⟨y, hy⟩ : ∃ y, y = l[k] := ⟨_, rfl⟩
    rw [← hy] at hget
    have hu := h.keep (t := τ) fun c hc => g.2.2 c (h.lt wf hc)
    obtain ⟨p, ix, ld⟩ := hu.atI (n := ((k : Nat) : Int)) rfl hget
    obtain ⟨t1, dy1, g1⟩ := dy τ y g.wf
    have c0 : ((k : Nat) : Int) < ((l.length : Nat) : Int) := by omega
    have hh : hitI l id k = decide (cmpI id y = 0) := by simp only [hitI, hget]
    refine ⟨k, t1, ?_, g.trans g1, hF⟩
    rw [hh]
    clear hinv hF dy
    generalize R (d + 1) = r at *
    generalize ((k : Nat) : Int) = K at *
    generalize ((l.length : Nat) : Int) = LL at *
    generalize cmpI id y = CY at *
    simp [ll, lp, c0, ix, ld, dy1, retT, allV]
  · have hke : k = l.length := by omega
    have hh : hitI l id k = false := by simp only [hitI, List.getElem?_eq_none (by omega : l.length ≤ k)]
    have c0 : ¬ ((k : Nat) : Int) < ((l.length : Nat) : Int) := by omega
    refine ⟨k, τ, ?_, g, hF⟩
    rw [hh]
    clear hinv hF dy hke
    generalize R (d + 1) = r at *
    generalize ((k : Nat) : Int) = K at *
    generalize ((l.length : Nat) : Int) = LL at *
    simp [ll, lp, c0, retT, allV]

theorem insP_at {f0 e i o n q j p m c : Nat} {k : Int} {σ : St} {vs us : List S} (hi : σ.get i = some (.cells true vs)) (hj : σ.get j = some (.cells true us))
    (hd : decide (q = e ∧ o = 0 ∧ 0 ≤ k ∧ k < n ∧ m = 1 ∧ c = 1 ∧ n ≤ 1000000 ∧ n * e ≤ vs.length ∧ i ≠ j ∧ p + e ≤ us.length ∧ e ≠ 0) = true) :
    insP f0 e f0 [Z (.sl i o n (.grown q)), I .i64 k, Z (.sl j p m (.known c))] σ = some (Z (.sl σ.size 0 (n + 1) (.grown e)), (σ.set i .dead).push (.cells true (vs.take (k.toNat * e) ++ (us.drop p).take e ++ (vs.drop (k.toNat * e)).take ((n - k.toNat) * e)))) := by
  have hn : Nat.beq f0 f0 = true := Nat.beq_refl f0
  delta insP
  dsimp only
  rw [hn]
  dsimp only
  rw [hi, hj]
  dsimp only
  rw [hd]

theorem insP_not {f0 e i o n q j p m c : Nat} {k : Int} {σ : St} {vs us : List S} (hi : σ.get i = some (.cells true vs)) (hj : σ.get j = some (.cells true us))
    (hd : decide (q = e ∧ o = 0 ∧ 0 ≤ k ∧ k < n ∧ m = 1 ∧ c = 1 ∧ n ≤ 1000000 ∧ n * e ≤ vs.length ∧ i ≠ j ∧ p + e ≤ us.length ∧ e ≠ 0) = false) :
    insP f0 e f0 [Z (.sl i o n (.grown q)), I .i64 k, Z (.sl j p m (.known c))] σ = none := by
  have hn : Nat.beq f0 f0 = true := Nat.beq_refl f0
  delta insP
  dsimp only
  rw [hn]
  dsimp only
  rw [hi, hj]
  dsimp only
  rw [hd]

theorem delP_at {f0 e i o n q : Nat} {a b : Int} {z : List S} {σ : St} {vs : List S} (hi : σ.get i = some (.cells true vs)) (hd : decide (q = e ∧ 0 ≤ a ∧ b = a + 1 ∧ b ≤ n ∧ n ≤ 1000000 ∧ o + n * e ≤ vs.length) = true) :
    delP f0 e z f0 [Z (.sl i o n (.grown q)), I .i64 a, I .i64 b] σ = some (Z (.sl i o (n - 1) (.grown e)), (σ.set i (.cells true (setRange vs (o + a.toNat * e) ((vs.drop (o + (a.toNat + 1) * e)).take ((n - 1 - a.toNat) * e))))).set i (.cells true (setRange (setRange vs (o + a.toNat * e) ((vs.drop (o + (a.toNat + 1) * e)).take ((n - 1 - a.toNat) * e))) (o + (n - 1) * e) z))) := by
  have hn : Nat.beq f0 f0 = true := Nat.beq_refl f0
  delta delP
  dsimp only
  rw [hn]
  dsimp only
  rw [hi]
  dsimp only
  rw [hd]

theorem insBody (d : Nat) {a0 a1 a2 : T} {s : St} (hp : prim 135 [a0, a1, a2] s = none) : R (d + 1) 135 [a0, a1, a2] s = f135 (R d) 8192 a0 a1 a2 s :=
  (runQ_body hp Tryz.func135 (by kernel_rfl)).trans (f135_eq _ _ _ _ _ _)

structure NewI (s t : St) (x y : S) (l : List Inf) : Prop where
  wf : t.wf
  le : s.size ≤ t.size
  ins : InS t y l
  old : ∀ b, b < s.size → own x ≠ some b → t.get b = s.get b
  new : ∀ c, own y = some c → own x = some c ∨ s.size ≤ c

theorem ins_run (d : Nat) (wf : s.wf) (h : InS s x l) (hl : l.length ≤ 8000) {k j : Nat} (hk : k ≤ l.length) {a : Inf} (hj : s.get j = some (.cells true (cI a))) (hjx : ∀ c, own x = some c → c ≠ j) :
    ∃ y t, R (d + 1) 135 [Z x, I .i64 ((k : Nat) : Int), Z (.sl j 0 1 (.known 1))] s = some (Z y, t) ∧ NewI s t x y (l.take k ++ a :: l.drop k) := by
  have hcl := cells_len (e := 5) cI_len l
  have hjs := wf.lt hj
  have src : aSrc 5 (Z (.sl j 0 1 (.known 1))) s.get = some (1, cI a) := by
    simp only [aSrc, if_neg (show ¬ (1 : Nat) = 0 by decide), hj]
    rw [if_pos (show 0 + 1 * 5 ≤ (cI a).length by simp [cI])]
    rfl
  have le2 : aLenSl (Z (.sl j 0 1 (.known 1))) = some (I .i64 1) := rfl
  have f1 : aBin .eql (I .i64 1) (I .i64 0) = some (B false) := rfl
  rcases h with ⟨rfl, rfl⟩ | ⟨c, vs, rfl, hb, ht⟩
  · -- a nil list
    have hk0 : k = 0 := by simpa using hk
    subst hk0
    have hp : prim 135 [Z .nils, I .i64 ((0 : Nat) : Int), Z (.sl j 0 1 (.known 1))] s = none := by
      rw [prim_ins]; rfl
    rw [insBody d hp]
    unfold f135
    have p1 : aPieceSl 5 (Z .nils) (some (I .i64 ((0 : Nat) : Int))) none none = some (Z .nils) := rfl
    have ap : aAppend 5 40 (Z .nils) (Z (.sl j 0 1 (.known 1))) s = some (Z (.sl s.size 0 1 (.grown 5)), s.push (.cells true (cI a))) := by
      simp only [aAppend, src]
      rfl
    have e0 : aLenSl (Z .nils) = some (I .i64 ((0 : Nat) : Int)) := rfl
    have f2 : aBin .eql (I .i64 ((0 : Nat) : Int)) (I .i64 ((0 : Nat) : Int)) = some (B true) := rfl
    refine ⟨.sl s.size 0 1 (.grown 5), s.push (.cells true (cI a)), ?_, St.wf_push wf _, by simp, .inr ⟨s.size, cI a, rfl, St.get_push_same _ _, by simp [cells, cI]⟩, fun b hb _ => St.get_push_ne _ _ (by omega), fun c hc => by cases hc; exact .inr (Nat.le_refl _)⟩
    simp only [p1, bd_some, le2, f1, br_false, e0, f2, br_true, ap, bd2_some]
  · have hcj : c ≠ j := hjx c rfl
    have hvl : l.length * 5 ≤ vs.length := by
      have := congrArg List.length ht
      rw [List.length_take, hcl] at this
      omega
    have hcs := wf.lt hb
    by_cases hkl : k < l.length
    · -- ahead of another
      have hd : decide ((5 : Nat) = 5 ∧ (0 : Nat) = 0 ∧ (0 : Int) ≤ ((k : Nat) : Int) ∧ ((k : Nat) : Int) < ((l.length : Nat) : Int) ∧ (1 : Nat) = 1 ∧ (1 : Nat) = 1 ∧ l.length ≤ 1000000 ∧ l.length * 5 ≤ vs.length ∧ c ≠ j ∧ 0 + 5 ≤ (cI a).length ∧ (5 : Nat) ≠ 0) = true :=
        decide_eq_true ⟨rfl, rfl, by omega, by omega, rfl, rfl, by omega, hvl, hcj, by simp [cI], by decide⟩
      have hi : insP 135 5 135 [Z (.sl c 0 l.length (.grown 5)), I .i64 ((k : Nat) : Int), Z (.sl j 0 1 (.known 1))] s =
          some (Z (.sl s.size 0 (l.length + 1) (.grown 5)), (s.set c .dead).push (.cells true (vs.take (k * 5) ++ ((cI a).drop 0).take 5 ++ (vs.drop (k * 5)).take ((l.length - k) * 5)))) := by
        rw [insP_at hb hj hd, Int.toNat_natCast]
      have hr := runQ_prim (P := Tryz.prog) (N := 8192) (d := d) (prim_ins.trans hi)
      refine ⟨_, _, hr, St.wf_push (St.wf_set wf hcs _) _, by simp, .inr ⟨s.size, vs.take (k * 5) ++ ((cI a).drop 0).take 5 ++ (vs.drop (k * 5)).take ((l.length - k) * 5), ?_, ?_, ?_⟩, fun b hb' hne => ?_, fun d hd => by cases hd; exact .inr (Nat.le_refl _)⟩
      · have : (l.take k ++ a :: l.drop k).length = l.length + 1 := by simp; omega
        rw [this]
      · exact St.get_push_same (s.set c .dead) _
      · have e1 : (cI a).drop 0 = cI a := rfl
        have e2 : (cI a).take 5 = cI a := rfl
        have e3 : vs.take (k * 5) = cells cI (l.take k) := by
          rw [← cells_take (e := 5) cI_len k l, ← ht, List.take_take]
          congr 1; omega
        have e4 : (vs.drop (k * 5)).take ((l.length - k) * 5) = cells cI (l.drop k) := by
          rw [← cells_drop (e := 5) cI_len k l, ← ht, List.drop_take]
          congr 1; omega
        have e5 : cells cI (l.take k ++ a :: l.drop k) = cells cI (l.take k) ++ cI a ++ cells cI (l.drop k) := by
          simp [cells]
        rw [e1, e2, e3, e4, ← e5, List.take_of_length_le]
        rw [cells_len (e := 5) cI_len]
        omega
      · rw [St.get_push_ne (s.set c .dead) _ (by simp; omega), St.get_set_ne _ _ (fun e => hne (by rw [e]; rfl))]
    · -- at the end
      have hke : k = l.length := by omega
      subst hke
      have hd : decide ((5 : Nat) = 5 ∧ (0 : Nat) = 0 ∧ (0 : Int) ≤ ((l.length : Nat) : Int) ∧ ((l.length : Nat) : Int) < ((l.length : Nat) : Int) ∧ (1 : Nat) = 1 ∧ (1 : Nat) = 1 ∧ l.length ≤ 1000000 ∧ l.length * 5 ≤ vs.length ∧ c ≠ j ∧ 0 + 5 ≤ (cI a).length ∧ (5 : Nat) ≠ 0) = false :=
        decide_eq_false fun h => by omega
      have hp : prim 135 [Z (.sl c 0 l.length (.grown 5)), I .i64 ((l.length : Nat) : Int), Z (.sl j 0 1 (.known 1))] s = none := by
        rw [prim_ins, insP_not hb hj hd]
      rw [insBody d hp]
      unfold f135
      have p1 : aPieceSl 5 (Z (.sl c 0 l.length (.grown 5))) (some (I .i64 ((l.length : Nat) : Int))) none none = some (Z (.emp c 5)) := by
        simp only [aPieceSl, aBounds_lo (Nat.le_refl l.length) (Nat.le_refl l.length), if_pos trivial, if_neg (Nat.lt_irrefl _)]
      have e0 : aLenSl (Z (.sl c 0 l.length (.grown 5))) = some (I .i64 ((l.length : Nat) : Int)) := rfl
      have f2 : aBin .eql (I .i64 ((l.length : Nat) : Int)) (I .i64 ((l.length : Nat) : Int)) = some (B true) := by
        rw [eql_int, decide_eq_true rfl]
      have hsz : (l.take l.length ++ a :: l.drop l.length).length = l.length + 1 := by simp
      have hlast : l.take l.length ++ a :: l.drop l.length = l ++ [a] := by simp
      have hcell : cells cI (l ++ [a]) = cells cI l ++ cI a := by simp [cells]
      have c1 : True ∧ (l.length + 1) * 40 ≤ 140737488355328 := ⟨trivial, by omega⟩
      by_cases hroom : 0 + (l.length + 1) * 5 ≤ vs.length
      · have ap : aAppend 5 40 (Z (.sl c 0 l.length (.grown 5))) (Z (.sl j 0 1 (.known 1))) s = some (Z (.sl c 0 (l.length + 1) (.grown 5)), s.set c (.cells true (setRange vs (0 + l.length * 5) (cI a)))) := by
          simp only [aAppend, src, if_neg (show ¬ (5 : Nat) = 0 by decide), if_neg (show ¬ (1 : Nat) = 0 by decide), hb]
          rw [if_pos c1, if_pos hroom]
        refine ⟨.sl c 0 (l.length + 1) (.grown 5), s.set c (.cells true (setRange vs (0 + l.length * 5) (cI a))), by simp only [p1, bd_some, le2, f1, br_false, e0, f2, br_true, ap, bd2_some], St.wf_set wf hcs _, by simp, .inr ⟨c, _, by rw [hsz], St.get_set_same _ _ _, ?_⟩, fun b hb' hne => St.get_set_ne _ _ (fun e => hne (by rw [e]; rfl)), fun d hd => .inl hd⟩
        rw [hlast, hcell, setRange_eq _ _ _ (by simp [cI]; omega), Nat.zero_add, ht, List.take_left']
        simp [hcl, cI]; omega
      · have ap : aAppend 5 40 (Z (.sl c 0 l.length (.grown 5))) (Z (.sl j 0 1 (.known 1))) s = some (Z (.sl s.size 0 (l.length + 1) (.grown 5)), (s.set c .dead).push (.cells true ((vs.drop 0).take (l.length * 5) ++ cI a))) := by
          simp only [aAppend, src, if_neg (show ¬ (5 : Nat) = 0 by decide), if_neg (show ¬ (1 : Nat) = 0 by decide), hb]
          rw [if_pos c1, if_neg hroom, if_pos (by omega)]
        refine ⟨.sl s.size 0 (l.length + 1) (.grown 5), (s.set c .dead).push (.cells true ((vs.drop 0).take (l.length * 5) ++ cI a)), by simp only [p1, bd_some, le2, f1, br_false, e0, f2, br_true, ap, bd2_some], St.wf_push (St.wf_set wf hcs _) _, by simp, .inr ⟨s.size, _, by rw [hsz], St.get_push_same (s.set c .dead) _, ?_⟩, fun b hb' hne => ?_, fun d hd => by cases hd; exact .inr (Nat.le_refl _)⟩
        · rw [hlast, hcell, List.drop_zero, ht, List.take_of_length_le]
          simp [hcl, cI]; omega
        · rw [St.get_push_ne (s.set c .dead) _ (by simp; omega), St.get_set_ne _ _ (fun e => hne (by rw [e]; rfl))]

theorem del_run (d : Nat) (wf : s.wf) (h : InS s x l) (hl : l.length ≤ 8000) {k : Nat} (hk : k < l.length) :
    ∃ y t, R (d + 1) 136 [Z x, I .i64 ((k : Nat) : Int), I .i64 ((k + 1 : Nat) : Int)] s = some (Z y, t) ∧ NewI s t x y (l.take k ++ l.drop (k + 1)) := by
  have hcl := cells_len (e := 5) cI_len l
  rcases h with ⟨rfl, rfl⟩ | ⟨c, vs, rfl, hb, ht⟩
  · simp at hk
  · have hvl : l.length * 5 ≤ vs.length := by
      have := congrArg List.length ht
      rw [List.length_take, hcl] at this
      omega
    have hcs := wf.lt hb
    have hd : decide ((5 : Nat) = 5 ∧ (0 : Int) ≤ ((k : Nat) : Int) ∧ ((k + 1 : Nat) : Int) = ((k : Nat) : Int) + 1 ∧ ((k + 1 : Nat) : Int) ≤ ((l.length : Nat) : Int) ∧ l.length ≤ 1000000 ∧ 0 + l.length * 5 ≤ vs.length) = true :=
      decide_eq_true ⟨rfl, by omega, by omega, by omega, by omega, by omega⟩
    obtain ⟨A, hA⟩ : ∃ A, A = setRange vs (0 + k * 5) ((vs.drop (0 + (k + 1) * 5)).take ((l.length - 1 - k) * 5)) := ⟨_, rfl⟩
    obtain ⟨Bl, hB⟩ : ∃ Bl, Bl = setRange A (0 + (l.length - 1) * 5) [.int .i64 0, .int .i64 0, .int .i64 0, .int .i64 0, .int .u32 0] := ⟨_, rfl⟩
    have hi : delP 136 5 [.int .i64 0, .int .i64 0, .int .i64 0, .int .i64 0, .int .u32 0] 136 [Z (.sl c 0 l.length (.grown 5)), I .i64 ((k : Nat) : Int), I .i64 ((k + 1 : Nat) : Int)] s =
        some (Z (.sl c 0 (l.length - 1) (.grown 5)), (s.set c (.cells true A)).set c (.cells true Bl)) := by
      rw [delP_at hb hd, Int.toNat_natCast, ← hA, ← hB]
    have hr := runQ_prim (P := Tryz.prog) (N := 8192) (d := d) (prim_del hi)
    have hsz : (l.take k ++ l.drop (k + 1)).length = l.length - 1 := by simp; omega
    refine ⟨_, _, hr, St.wf_set (St.wf_set wf hcs _) (by simpa using hcs) _, by simp, .inr ⟨c, Bl, by rw [hsz], St.get_set_same _ _ _, ?_⟩, fun b hb' hne => ?_, fun d hd => .inl hd⟩
    · have e3 : vs.take (k * 5) = cells cI (l.take k) := by
        rw [← cells_take (e := 5) cI_len k l, ← ht, List.take_take]
        congr 1; omega
      have e4 : (vs.drop ((k + 1) * 5)).take ((l.length - 1 - k) * 5) = cells cI (l.drop (k + 1)) := by
        rw [← cells_drop (e := 5) cI_len (k + 1) l, ← ht, List.drop_take]
        congr 1; omega
      have hln : ((vs.drop ((k + 1) * 5)).take ((l.length - 1 - k) * 5)).length = (l.length - 1 - k) * 5 := by simp; omega
      have hAl : A.length = vs.length := by rw [hA, setRange_length]
      have e6 : A.take ((l.length - 1) * 5) = cells cI (l.take k) ++ cells cI (l.drop (k + 1)) := by
        rw [hA, Nat.zero_add, Nat.zero_add, setRange_eq _ _ _ (by rw [hln]; omega), e3, e4, List.take_left']
        rw [List.length_append, cells_len (e := 5) cI_len, cells_len (e := 5) cI_len]
        simp; omega
      have e7 : Bl.take ((l.length - 1) * 5) = A.take ((l.length - 1) * 5) := by
        rw [hB, Nat.zero_add, setRange_eq _ _ _ (by simp; omega), List.append_assoc, List.take_left']
        simp; omega
      rw [hsz, e7, e6, cells_append]
    · have hne' : b ≠ c := fun e => hne (by rw [e]; rfl)
      rw [St.get_set_ne _ _ hne', St.get_set_ne _ _ hne']
end
end Go.Proofs.YtbohejffelipoaaGreatDoor


/-
  What entries come to, one by one, in plain words. No conditions but those named in each line.
-/
namespace Go.Proofs.YtbohejffelipoaaGreatDoor
open Go Go.Abs Go.Abs.F
set_option linter.unusedVariables false

structure FoS where
  l : List Inf
  ever : List Int
  rule : Pol
  v : Int
  w : Int

def lowI (id : Int) (a : Inf) : Bool := decide (a.i < id)
def kOf (l : List Inf) (id : Int) : Nat := (l.takeWhile (lowI id)).length
def thereP (l : List Inf) (id : Int) : Bool := l.any fun a => decide (a.i = id)
def infE (e : Ent) : Inf := ⟨e.i, e.t, e.f, e.o, e.u⟩
def insL (l : List Inf) (a : Inf) : List Inf := l.take (kOf l a.i) ++ a :: l.drop (kOf l a.i)
def delL (l : List Inf) (id : Int) : List Inf := l.take (kOf l id) ++ l.drop (kOf l id + 1)
def asksP (q : FoS) (e : Ent) : Int :=
  if mayE e = true then (if e.k = 1 ∧ e.i ∈ q.ever then 7 else if e.k = 2 ∧ thereP q.l e.i = false then 9 else if e.v < q.w then 12 else 0) else 1
def nextP (q : FoS) (e : Ent) : FoS :=
  if e.k = 1 then ⟨insL q.l (infE e), q.ever ++ [e.i], q.rule, q.v, e.v⟩
  else if e.k = 2 then ⟨delL q.l e.i, q.ever, q.rule, q.v, e.v⟩
  else if e.k = 3 then ⟨q.l, q.ever, q.rule, e.v, e.v⟩
  else ⟨q.l, q.ever, (parseP e.x).1, q.v, e.v⟩
def foldGo (q : FoS) : List Ent → Int × FoS
  | [] => (0, q)
  | e :: r => if asksP q e = 0 then foldGo (nextP q e) r else (asksP q e, q)
def fs0 : FoS := ⟨[], [], polD, 0, 0⟩

structure FOk (q : FoS) : Prop where
  up : q.l.Pairwise fun a b => a.i < b.i
  rng : ∀ a ∈ q.l, 1 ≤ a.i ∧ a.i ≤ 1073741824
  ev : ∀ a ∈ q.l, a.i ∈ q.ever
  len : q.l.length ≤ q.ever.length

theorem fs0_ok : FOk fs0 := ⟨.nil, (by intro a h; simp [fs0] at h), (by intro a h; simp [fs0] at h), Nat.le_refl _⟩

theorem tw_len {α : Type} {p : α → Bool} : ∀ (l : List α) (k : Nat), k ≤ l.length → (∀ (a : Nat) (x : α), a < k → l[a]? = some x → p x = true) → (∀ x, l[k]? = some x → p x = false) → (l.takeWhile p).length = k
  | [], k, h, _, _ => by simp at h; subst h; rfl
  | a :: l, 0, _, _, h => by
    have := h a rfl
    simp [List.takeWhile_cons, this]
  | a :: l, k + 1, hk, h1, h2 => by
    have h0 := h1 0 a (by omega) rfl
    rw [List.takeWhile_cons, h0]
    simp only [if_true, List.length_cons]
    rw [tw_len l k (by simpa using hk) (fun b x hb hx => h1 (b + 1) x (by omega) (by simpa using hx)) (fun x hx => h2 x (by simpa using hx))]

theorem take_kOf (l : List Inf) (id : Int) : l.take (kOf l id) = l.takeWhile (lowI id) := by
  unfold kOf
  induction l with
  | nil => rfl
  | cons a l ih =>
    rw [List.takeWhile_cons]
    split
    · rw [List.length_cons, List.take_succ_cons, ih]
    · rfl

theorem drop_kOf (l : List Inf) (id : Int) : l.drop (kOf l id) = l.dropWhile (lowI id) := by
  unfold kOf
  induction l with
  | nil => rfl
  | cons a l ih =>
    rw [List.takeWhile_cons, List.dropWhile_cons]
    split
    · rw [List.length_cons, List.drop_succ_cons, ih]
    · rfl

theorem low_take {l : List Inf} {id : Int} {a : Inf} (h : a ∈ l.take (kOf l id)) : a.i < id := by
  rw [take_kOf] at h
  have : ∀ m : List Inf, a ∈ m.takeWhile (lowI id) → a.i < id := by
    intro m
    induction m with
    | nil => intro h; cases h
    | cons b m ih =>
      intro h
      rw [List.takeWhile_cons] at h
      split at h
      · rename_i hb
        rcases List.mem_cons.1 h with rfl | h
        · simpa [lowI] using hb
        · exact ih h
      · cases h
  exact this l h

theorem high_drop {l : List Inf} {id : Int} (hp : l.Pairwise fun a b => a.i < b.i) {a : Inf} (h : a ∈ l.drop (kOf l id)) : id ≤ a.i := by
  rw [drop_kOf] at h
  have : ∀ m : List Inf, (m.Pairwise fun a b => a.i < b.i) → a ∈ m.dropWhile (lowI id) → id ≤ a.i := by
    intro m
    induction m with
    | nil => intro _ h; cases h
    | cons b m ih =>
      intro hp h
      rw [List.dropWhile_cons] at h
      split at h
      · exact ih (List.pairwise_cons.1 hp).2 h
      · rename_i hb
        have hb' : id ≤ b.i := by simpa [lowI] using hb
        rcases List.mem_cons.1 h with rfl | h
        · exact hb'
        · have := (List.pairwise_cons.1 hp).1 a h
          omega
  exact this l hp h

theorem up_at {l : List Inf} (hp : l.Pairwise fun a b => a.i < b.i) {a b : Nat} {x y : Inf} (hab : a < b) (hx : l[a]? = some x) (hy : l[b]? = some y) : x.i < y.i := by
  obtain ⟨h1, rfl⟩ := List.getElem?_eq_some_iff.1 hx
  obtain ⟨h2, rfl⟩ := List.getElem?_eq_some_iff.1 hy
  exact List.pairwise_iff_getElem.1 hp a b h1 h2 hab

theorem found_eq {l : List Inf} {id : Int} {k : Nat} (h : Found l id k) (hp : l.Pairwise fun a b => a.i < b.i) (hr : ∀ a ∈ l, 1 ≤ a.i ∧ a.i ≤ 1073741824) (h0 : 1 ≤ id) (h1 : id ≤ 1073741824) : k = kOf l id ∧ hitI l id k = thereP l id := by
  have hc : ∀ a ∈ l, cmpI id a = a.i - id := fun a ha => by
    have := hr a ha
    exact cmpI_in (by omega) h1 (by omega) this.2
  have hm : ∀ (a b : Nat) (x y : Inf), a < b → l[a]? = some x → l[b]? = some y → cmpI id y < 0 → cmpI id x < 0 := fun a b x y hab hx hy hlt => by
    have := up_at hp hab hx hy
    rw [hc y (List.mem_of_getElem? hy)] at hlt
    rw [hc x (List.mem_of_getElem? hx)]
    omega
  have hl : ∀ (a : Nat) (x : Inf), a < k → l[a]? = some x → x.i < id := fun a x ha hx => by
    have := h.low hm a x ha hx
    rw [hc x (List.mem_of_getElem? hx)] at this
    omega
  have hh : ∀ (a : Nat) (x : Inf), k ≤ a → l[a]? = some x → id ≤ x.i := fun a x ha hx => by
    have := h.high hm a x ha hx
    rw [hc x (List.mem_of_getElem? hx)] at this
    omega
  refine ⟨(tw_len l k h.le (fun a x ha hx => decide_eq_true (hl a x ha hx)) (fun x hx => decide_eq_false (by have := hh k x (Nat.le_refl _) hx; omega))).symm, ?_⟩
  unfold hitI thereP
  cases hk : l[k]? with
  | none =>
    symm
    rw [List.any_eq_false]
    intro x hx
    obtain ⟨a, ha⟩ := List.getElem?_of_mem hx
    have hle : l.length ≤ k := List.getElem?_eq_none_iff.1 hk
    have := hl a x (by have := (List.getElem?_eq_some_iff.1 ha).1; omega) ha
    simp only [decide_eq_true_eq]
    omega
  | some y =>
    have hy := List.mem_of_getElem? hk
    show decide (cmpI id y = 0) = _
    rw [hc y hy]
    by_cases e : y.i = id
    · rw [decide_eq_true (by omega)]
      symm
      rw [List.any_eq_true]
      exact ⟨y, hy, by simpa using e⟩
    · rw [decide_eq_false (by omega)]
      symm
      rw [List.any_eq_false]
      intro x hx
      obtain ⟨a, ha⟩ := List.getElem?_of_mem hx
      simp only [decide_eq_true_eq]
      intro ex
      have hyk := hh k y (Nat.le_refl _) hk
      rcases Nat.lt_trichotomy a k with hlt | rfl | hgt
      · have := hl a x hlt ha; omega
      · rw [ha] at hk; cases hk; exact e ex
      · have := up_at hp hgt hk ha; omega

theorem kOf_lt {l : List Inf} {id : Int} (hp : l.Pairwise fun a b => a.i < b.i) (h : thereP l id = true) : kOf l id < l.length := by
  unfold thereP at h
  rw [List.any_eq_true] at h
  obtain ⟨x, hx, ex⟩ := h
  have ex' : x.i = id := by simpa using ex
  have hd : x ∈ l.drop (kOf l id) := by
    have hx' := hx
    rw [← List.take_append_drop (kOf l id) l] at hx'
    rcases List.mem_append.1 hx' with h | h
    · have := low_take h; omega
    · exact h
  rcases Nat.lt_or_ge (kOf l id) l.length with h | h
  · exact h
  · rw [List.drop_eq_nil_of_le h] at hd; cases hd

theorem kOf_le (l : List Inf) (id : Int) : kOf l id ≤ l.length := (List.takeWhile_sublist _).length_le

theorem insL_mem {l : List Inf} {a b : Inf} (h : b ∈ insL l a) : b = a ∨ b ∈ l := by
  unfold insL at h
  rcases List.mem_append.1 h with h | h
  · exact .inr (List.mem_of_mem_take h)
  · rcases List.mem_cons.1 h with h | h
    · exact .inl h
    · exact .inr (List.mem_of_mem_drop h)

theorem delL_sub (l : List Inf) (id : Int) : (delL l id).Sublist l := by
  have h := List.take_append_drop (kOf l id) l
  conv => rhs; rw [← h]
  exact List.Sublist.append (List.Sublist.refl _) (by rw [← List.drop_drop]; exact List.drop_sublist 1 _)

theorem next_ok {q : FoS} {e : Ent} (h : FOk q) (ha : asksP q e = 0) : FOk (nextP q e) := by
  have hm : mayE e = true := by
    unfold asksP at ha
    by_cases hm : mayE e = true
    · exact hm
    · rw [if_neg hm] at ha; cases ha
  obtain ⟨v0, v1, k0, k1, h1, h2, h3, h4⟩ := mayE_range hm
  unfold nextP
  by_cases c1 : e.k = 1
  · rw [if_pos c1]
    have hne : e.i ∉ q.ever := by
      unfold asksP at ha
      rw [if_pos hm] at ha
      intro hin
      rw [if_pos ⟨c1, hin⟩] at ha
      cases ha
    obtain ⟨_, i0, i1, _⟩ := h1 c1
    refine ⟨?_, fun a ha => ?_, fun a ha => ?_, ?_⟩
    · show (insL q.l (infE e)).Pairwise _
      unfold insL
      refine List.pairwise_append.2 ⟨h.up.sublist (List.take_sublist _ _), List.pairwise_cons.2 ⟨fun b hb => ?_, h.up.sublist (List.drop_sublist _ _)⟩, fun a ha b hb => ?_⟩
      · have hb1 := high_drop h.up hb
        have hb2 := h.ev b (List.mem_of_mem_drop hb)
        have : b.i ≠ e.i := fun he => hne (by rw [← he]; exact hb2)
        show e.i < b.i
        have : e.i ≤ b.i := hb1
        omega
      · have ha1 := low_take ha
        rcases List.mem_cons.1 hb with rfl | hb
        · exact ha1
        · have := high_drop h.up hb
          omega
    · rcases insL_mem ha with rfl | ha
      · exact ⟨i0, i1⟩
      · exact h.rng a ha
    · rcases insL_mem ha with rfl | ha
      · exact List.mem_append_right _ (by simp [infE])
      · exact List.mem_append_left _ (h.ev a ha)
    · have := h.len
      simp only [insL, List.length_append, List.length_take, List.length_cons, List.length_drop, List.length_nil]
      have := kOf_le q.l (infE e).i
      omega
  · rw [if_neg c1]
    by_cases c2 : e.k = 2
    · rw [if_pos c2]
      have hs := delL_sub q.l e.i
      exact ⟨h.up.sublist hs, fun a ha => h.rng a (hs.subset ha), fun a ha => h.ev a (hs.subset ha), Nat.le_trans hs.length_le h.len⟩
    · rw [if_neg c2]
      by_cases c3 : e.k = 3
      · rw [if_pos c3]; exact ⟨h.up, h.rng, h.ev, h.len⟩
      · rw [if_neg c3]; exact ⟨h.up, h.rng, h.ev, h.len⟩

theorem next_ever {q : FoS} {e : Ent} : (nextP q e).ever.length ≤ q.ever.length + 1 := by
  unfold nextP
  split
  · simp
  · split
    · simp
    · split <;> simp
end Go.Proofs.YtbohejffelipoaaGreatDoor


/-
  A manifest in plain words: where its entries end, what a prefix of it comes to. No conditions but those named in each line.
-/
namespace Go.Proofs.YtbohejffelipoaaGreatDoor
open Go Go.Abs Go.Abs.F
set_option linter.unusedVariables false

def placeL (l : List Ent) (n : Nat) : Nat := (framesB (l.take n)).length
def endsL (l : List Ent) : List Int := (List.range l.length).map fun j => ((placeL l (j + 1) : Nat) : Int)

@[simp] theorem endsL_len (l : List Ent) : (endsL l).length = l.length := by simp [endsL]
theorem placeL_zero (l : List Ent) : placeL l 0 = 0 := by simp [placeL, framesB]
theorem placeL_all (l : List Ent) : placeL l l.length = (framesB l).length := by simp [placeL]
theorem endsL_get {l : List Ent} {j : Nat} (h : j < l.length) : (endsL l)[j]? = some ((placeL l (j + 1) : Nat) : Int) := by
  simp [endsL, h]
theorem placeL_append (l m : List Ent) {n : Nat} (h : n ≤ l.length) : placeL (l ++ m) n = placeL l n := by
  unfold placeL
  rw [List.take_append_of_le_length h]
theorem endsL_snoc (l : List Ent) (e : Ent) : endsL (l ++ [e]) = endsL l ++ [(((framesB l).length + (wrapB (putB e)).length : Nat) : Int)] := by
  unfold endsL
  rw [List.length_append, List.length_singleton, List.range_succ, List.map_append]
  congr 1
  · apply List.map_congr_left
    intro j hj
    rw [placeL_append _ _ (by have := List.mem_range.1 hj; omega)]
  · simp only [List.map_cons, List.map_nil]
    rw [show l.length + 1 = (l ++ [e]).length by simp, placeL_all, framesB_snoc, List.length_append]

theorem foldGo_append : ∀ (a b : List Ent) (q : FoS), foldGo q (a ++ b) = if (foldGo q a).1 = 0 then foldGo (foldGo q a).2 b else foldGo q a
  | [], b, q => by simp [foldGo]
  | e :: a, b, q => by
    have h1 : foldGo q (e :: a) = if asksP q e = 0 then foldGo (nextP q e) a else (asksP q e, q) := rfl
    have h2 : foldGo q (e :: a ++ b) = if asksP q e = 0 then foldGo (nextP q e) (a ++ b) else (asksP q e, q) := rfl
    by_cases h : asksP q e = 0
    · rw [if_pos h] at h1 h2
      rw [h1, h2]
      exact foldGo_append a b _
    · rw [if_neg h] at h1 h2
      rw [h1, h2, if_neg h]

theorem foldGo_snoc {l : List Ent} {q q' : FoS} {e : Ent} (h : foldGo q l = (0, q')) (he : asksP q' e = 0) : foldGo q (l ++ [e]) = (0, nextP q' e) := by
  rw [foldGo_append, h]
  simp [foldGo, he]

theorem asks_may {q : FoS} {e : Ent} (h : asksP q e = 0) : mayE e = true := by
  unfold asksP at h
  by_cases hm : mayE e = true
  · exact hm
  · rw [if_neg hm] at h; cases h

theorem foldGo_ok : ∀ {l : List Ent} {q q' : FoS}, foldGo q l = (0, q') → FOk q → l.all mayE = true ∧ FOk q' ∧ q'.ever.length ≤ q.ever.length + l.length
  | [], q, q', h, hq => by
    cases h
    exact ⟨rfl, hq, by simp⟩
  | e :: l, q, q', h, hq => by
    simp only [foldGo] at h
    by_cases ha : asksP q e = 0
    · rw [if_pos ha] at h
      obtain ⟨h1, h2, h3⟩ := foldGo_ok h (next_ok hq ha)
      refine ⟨by rw [List.all_cons, asks_may ha, h1]; rfl, h2, ?_⟩
      have := next_ever (q := q) (e := e)
      simp only [List.length_cons]
      omega
    · rw [if_neg ha] at h
      injection h with h1 h2
      exact absurd h1 ha

/-! ### Rules -/
def sealK (k : Nat) : Bs := [115, 101, 97, 108, 32, UInt8.ofNat (48 + k / 10), UInt8.ofNat (48 + k % 10)]
def ruleE (k : Nat) : Ent := ⟨4, 0, 0, 0, 0, 0, 0, sealK k⟩
def ruleOf : List Nat → Pol
  | [] => polD
  | [k] => (parseP (sealK k)).1
  | _ :: r => ruleOf r

set_option maxRecDepth 100000 in
theorem rules_all : ((List.range 65).all fun k => Nat.beq k 0 || (mayE (ruleE k) && decide ((parseP (sealK k)).1.c = (k : Int)))) = true := by kernel_rfl

theorem rule_ok {k : Nat} (h0 : 1 ≤ k) (h1 : k ≤ 64) : mayE (ruleE k) = true ∧ (parseP (sealK k)).1.c = (k : Int) := by
  have := List.all_eq_true.1 rules_all k (List.mem_range.2 (by omega))
  rw [Bool.or_eq_true, Bool.and_eq_true, decide_eq_true_eq] at this
  rcases this with h | h
  · have := Nat.eq_of_beq_eq_true h
    omega
  · exact h

theorem ruleOf_snoc : ∀ (l : List Nat) (k : Nat), ruleOf (l ++ [k]) = (parseP (sealK k)).1
  | [], k => rfl
  | [_], k => rfl
  | _ :: b :: r, k => by
    show ruleOf ((b :: r) ++ [k]) = _
    exact ruleOf_snoc (b :: r) k

def rulesFS (ks : List Nat) : FoS := ⟨[], [], ruleOf ks, 0, 0⟩

theorem rules_asks (ks : List Nat) {k : Nat} (h0 : 1 ≤ k) (h1 : k ≤ 64) : asksP (rulesFS ks) (ruleE k) = 0 := by
  unfold asksP
  rw [if_pos (rule_ok h0 h1).1]
  simp [ruleE, rulesFS]

theorem rules_next (ks : List Nat) (k : Nat) : nextP (rulesFS ks) (ruleE k) = rulesFS (ks ++ [k]) := by
  unfold nextP rulesFS
  rw [ruleOf_snoc]
  simp [ruleE]

theorem rules_fold : ∀ (n : Nat) (ks : List Nat), ks.length = n → (∀ k ∈ ks, 1 ≤ k ∧ k ≤ 64) → foldGo fs0 (ks.map ruleE) = (0, rulesFS ks) := by
  intro n
  induction n with
  | zero =>
    intro ks h _
    have : ks = [] := List.eq_nil_of_length_eq_zero h
    subst this
    rfl
  | succ n ih =>
    intro ks h hk
    rcases List.eq_nil_or_concat ks with rfl | ⟨l, k, rfl⟩
    · cases h
    · rw [List.concat_eq_append] at h hk ⊢
      have hl := ih l (by simpa using h) fun x hx => hk x (List.mem_append_left _ hx)
      have hkk := hk k (by simp)
      rw [List.map_append, List.map_cons, List.map_nil, foldGo_snoc hl (rules_asks l hkk.1 hkk.2), rules_next]

theorem rule_wf (k : Nat) : EWf (ruleE k) := ⟨Int.le_refl _, (show (0 : Int) < 4294967296 by decide)⟩
end Go.Proofs.YtbohejffelipoaaGreatDoor


/-
  A state of entries in a store: what is asked, what comes next. No conditions but those named in each line.
-/
namespace Go.Proofs.YtbohejffelipoaaGreatDoor
open Go Go.Abs Go.Abs.F
set_option linter.unusedVariables false

def mapE (ever : List Int) : List (S × V) := ever.map fun i => (S.int .i64 i, V.s (.bool true))
def cF (x : S) (mp : Nat) (q : FoS) : List S := [x, .map mp, .int .i64 q.rule.a0, .int .i64 q.rule.a1, .int .i64 q.rule.a2, .int .i64 q.rule.a3, .int .i64 q.rule.c, .int .i64 q.rule.n, .int .i64 q.v, .int .i64 q.w]

theorem find_ever (i : Int) : ∀ (l : List Int) (k : Nat), (i ∈ l → ∃ j, aFind (.int .i64 i) (mapE l) k = some (some (j, V.s (.bool true)))) ∧ (i ∉ l → aFind (.int .i64 i) (mapE l) k = some none)
  | [], k => ⟨fun h => by simp at h, fun _ => rfl⟩
  | a :: l, k => by
    obtain ⟨h1, h2⟩ := find_ever i l (k + 1)
    by_cases e : i = a
    · subst e
      refine ⟨fun _ => ⟨k, by simp [mapE, aFind, keyEq]⟩, fun h => (h (by simp)).elim⟩
    · have hk : aFind (.int .i64 i) (mapE (a :: l)) k = aFind (.int .i64 i) (mapE l) (k + 1) := by simp [mapE, aFind, keyEq, e]
      rw [hk]
      exact ⟨fun h => h1 (by rcases List.mem_cons.1 h with h | h; exact (e h).elim; exact h), fun h => h2 fun hh => h (List.mem_cons_of_mem _ hh)⟩

theorem look_ever {g : Mem} {mp : Nat} {ever : List Int} (h : g mp = some (.map (mapE ever))) (i : Int) : Go.Abs.F.look .i false (.s (.bool false)) (Z (.map mp)) (I .i64 i) g = some (B (decide (i ∈ ever))) := by
  obtain ⟨h1, h2⟩ := find_ever i ever 0
  have hk : isKey .i (I .i64 i) = true := rfl
  unfold Go.Abs.F.look
  rw [if_pos hk]
  by_cases hi : i ∈ ever
  · obtain ⟨j, hj⟩ := h1 hi
    simp only [aLookup, h, hj, decide_eq_true hi]
    rfl
  · simp only [aLookup, h, h2 hi, decide_eq_false hi]
    rfl

section
variable {K : Nat → Prop}
variable {s0 s t : St} {b mp : Nat} {q : FoS} {x y : S} {e : Ent}

theorem mset_ever {ever : List Int} (h : s.get mp = some (.map (mapE ever))) {i : Int} (hi : i ∉ ever) : mset .i (Z (.map mp)) (I .i64 i) (B true) s = some (tt, s.set mp (.map (mapE (ever ++ [i])))) := by
  obtain ⟨_, h2⟩ := find_ever i ever 0
  have hk : isKey .i (I .i64 i) = true := rfl
  unfold mset
  rw [if_pos hk]
  simp only [aMapSet, h, h2 hi]
  simp [mapE]

def GrK (K : Nat → Prop) (s t : St) : Prop := t.wf ∧ s.size ≤ t.size ∧ ∀ c, c < s.size → K c → t.get c = s.get c
theorem GrK.wf {K : Nat → Prop} {s t : St} (h : GrK K s t) : t.wf := h.1
theorem GrK.trans {K : Nat → Prop} {a b c : St} (h : GrK K a b) (k : Gr b c) : GrK K a c := ⟨k.1, Nat.le_trans h.2.1 k.2.1, fun x hx hK => by rw [k.2.2 x (Nat.lt_of_lt_of_le hx h.2.1), h.2.2 x hx hK]⟩

structure HG (K : Nat → Prop) (s0 s : St) (b : Nat) (q : FoS) (x : S) (mp : Nat) : Prop where
  gr : GrK K s0 s
  hb : b < s0.size → ¬ K b
  hm : mp < s0.size → ¬ K mp
  st : s.get b = some (.cells true (cF x mp q))
  mpE : s.get mp = some (.map (mapE q.ever))
  ins : InS s x q.l
  ow : ∀ c, own x = some c → (c < s0.size → ¬ K c) ∧ c ≠ b ∧ c ≠ mp

abbrev HF (s0 s : St) (b : Nat) (q : FoS) (x : S) (mp : Nat) : Prop := HG (fun _ => True) s0 s b q x mp
theorem HG.gr0 (h : HF s0 s b q x mp) : Gr s0 s := ⟨h.gr.1, h.gr.2.1, fun c hc => h.gr.2.2 c hc trivial⟩

theorem HG.bm (h : HG K s0 s b q x mp) : b ≠ mp := fun e => by
  have h1 := h.st
  rw [e, h.mpE] at h1
  cases h1

theorem HG.gr' (h : HG K s0 s b q x mp) (g : Gr s t) : HG K s0 t b q x mp :=
  ⟨h.gr.trans g, h.hb, h.hm, g.get h.st h.gr.wf, g.get h.mpE h.gr.wf, h.ins.keep fun c hc => g.2.2 c (h.ins.lt h.gr.wf hc), h.ow⟩

theorem HG.re (h : HG K s0 s b q x mp) : HG (fun c => c ≠ b ∧ c ≠ mp ∧ own x ≠ some c) s s b q x mp :=
  ⟨⟨h.gr.1, Nat.le_refl _, fun _ _ _ => rfl⟩, fun _ k => k.1 rfl, fun _ k => k.2.1 rfl, h.st, h.mpE, h.ins, fun c hc => ⟨fun _ k => k.2.2 hc, (h.ow c hc).2⟩⟩

theorem stAt_run (d : Nat) (h : HG K s0 s b q x mp) (hl : q.l.length ≤ 8000) (id : Int) : ∃ k t, R (d + 3) 134 [Z (.ptr b 0), I .i64 id] s = some (.tup [.s (.int .i64 ((k : Nat) : Int)), .s (.bool (hitI q.l id k))], t) ∧ Gr s t ∧ Found q.l id k := by
  obtain ⟨k, t, e1, g, f⟩ := bsf_run d h.gr.wf h.ins hl id
  refine ⟨k, t, ?_, g, f⟩
  rw [f134_run]
  unfold f134
  have l0 : aLoad1 (Z (.ptr b 0)) s.get = some (Z x) := aLoad1_of h.st rfl
  generalize R (d + 2) = r at *
  generalize ((k : Nat) : Int) = K at *
  simp [l0, e1, aExtract, retT, allV]

set_option maxHeartbeats 1000000 in
theorem stAsks_run (d : Nat) (h : HG K s0 s b q x mp) (hq : FOk q) (hl : q.l.length ≤ 8000) (e : Ent) : ∃ t, R (d + 9) 110 [Z (.ptr b 0), AE e] s = some (I .i64 (asksP q e), t) ∧ Gr s t := by
  rw [f110_run]
  unfold f110
  obtain ⟨n, hn⟩ : ∃ n, n = s.size := ⟨_, rfl⟩
  obtain ⟨s1, hs1⟩ : ∃ s1, s1 = s.push (.cells true (cE e)) := ⟨_, rfl⟩
  have nw1 : aNew s (nBox (AE e)) = some (Z (.ptr n 0), s1) := by rw [hs1, hn]; rfl
  have g1 : Gr s s1 := by rw [hs1]; exact Gr.push h.gr.wf _
  have b1 : s1.get n = some (.cells true (cE e)) := by rw [hs1, hn]; exact St.get_push_same _ _
  have l1 : aLoad1 (Z (.ptr n 2)) s1.get = some (I .i64 e.i) := aLoad1_of b1 rfl
  obtain ⟨k, s2, e2, g2, hF⟩ := stAt_run (d + 5) (h.gr' g1) hl e.i
  have b2 : s2.get n = some (.cells true (cE e)) := g2.get b1 g1.wf
  have l2 := load8 (g := s2.get) b2
  obtain ⟨s3, e3, g3⟩ := mayE_run d g2.wf e
  have b3 : s3.get n = some (.cells true (cE e)) := g3.get b2 g2.wf
  have h3 := ((h.gr' g1).gr' g2).gr' g3
  have k3 : aLoad1 (Z (.ptr n 0)) s3.get = some (I .i64 e.k) := aLoad1_of b3 rfl
  have v3 : aLoad1 (Z (.ptr n 1)) s3.get = some (I .i64 e.v) := aLoad1_of b3 rfl
  have i3 : aLoad1 (Z (.ptr n 2)) s3.get = some (I .i64 e.i) := aLoad1_of b3 rfl
  have m3 : aLoad1 (Z (.ptr b 1)) s3.get = some (Z (.map mp)) := aLoad1_of h3.st rfl
  have w3 : aLoad1 (Z (.ptr b 9)) s3.get = some (I .i64 q.w) := aLoad1_of h3.st rfl
  have lk := look_ever h3.mpE e.i
  refine ⟨s3, ?_, (g1.trans g2).trans g3⟩
  simp only [Nat.add_assoc, Nat.reduceAdd] at e2
  unfold asksP
  cases hm : mayE e with
  | false =>
    rw [hm] at e3
    generalize R (d + 8) = r at *
    generalize ((k : Nat) : Int) = K at *
    generalize hitI q.l e.i k = hit at *
    simp [nw1, l1, e2, aExtract, l2, e3]
  | true =>
    rw [hm] at e3
    obtain ⟨v0, v1, k0, k1, q1, q2, q3, q4⟩ := mayE_range hm
    rcases (by omega : e.k = 1 ∨ e.k = 2 ∨ e.k = 3 ∨ e.k = 4) with hk | hk | hk | hk
    · by_cases hi : e.i ∈ q.ever
      · rw [decide_eq_true hi] at lk
        generalize R (d + 8) = r at *
        generalize ((k : Nat) : Int) = K at *
        generalize hitI q.l e.i k = hit at *
        simp [nw1, l1, e2, aExtract, l2, e3, k3, hk, m3, i3, lk, hi]
      · rw [decide_eq_false hi] at lk
        generalize R (d + 8) = r at *
        generalize ((k : Nat) : Int) = K at *
        generalize hitI q.l e.i k = hit at *
        by_cases hv : e.v < q.w
        · simp [nw1, l1, e2, aExtract, l2, e3, k3, hk, m3, i3, lk, hi, v3, w3, hv]
        · simp [nw1, l1, e2, aExtract, l2, e3, k3, hk, m3, i3, lk, hi, v3, w3, hv]
    · obtain ⟨i0, i1, _⟩ := q2 hk
      obtain ⟨_, hh⟩ := found_eq hF hq.up hq.rng i0 i1
      rw [hh] at e2
      generalize R (d + 8) = r at *
      generalize ((k : Nat) : Int) = K at *
      cases ht : thereP q.l e.i with
      | false =>
        rw [ht] at e2
        simp [nw1, l1, e2, aExtract, l2, e3, k3, hk, m3, i3, v3, w3]
      | true =>
        rw [ht] at e2
        by_cases hv : e.v < q.w
        · simp [nw1, l1, e2, aExtract, l2, e3, k3, hk, m3, i3, v3, w3, hv]
        · simp [nw1, l1, e2, aExtract, l2, e3, k3, hk, m3, i3, v3, w3, hv]
    · generalize R (d + 8) = r at *
      generalize ((k : Nat) : Int) = K at *
      generalize hitI q.l e.i k = hit at *
      by_cases hv : e.v < q.w
      · simp [nw1, l1, e2, aExtract, l2, e3, k3, hk, m3, i3, v3, w3, hv]
      · simp [nw1, l1, e2, aExtract, l2, e3, k3, hk, m3, i3, v3, w3, hv]
    · generalize R (d + 8) = r at *
      generalize ((k : Nat) : Int) = K at *
      generalize hitI q.l e.i k = hit at *
      by_cases hv : e.v < q.w
      · simp [nw1, l1, e2, aExtract, l2, e3, k3, hk, m3, i3, v3, w3, hv]
      · simp [nw1, l1, e2, aExtract, l2, e3, k3, hk, m3, i3, v3, w3, hv]
end
end Go.Proofs.YtbohejffelipoaaGreatDoor


/-
  The state that takes an entry. No conditions but those named in each line.
-/
namespace Go.Proofs.YtbohejffelipoaaGreatDoor
open Go Go.Abs Go.Abs.F
set_option linter.unusedVariables false
section
variable {K : Nat → Prop}
variable {s0 s t : St} {b mp : Nat} {q : FoS} {x y : S} {e : Ent}

theorem stSet {σ : St} {q' : FoS} {o : Nat} {x' z : S} (h : σ.get b = some (.cells true (cF x mp q))) (ho : o < 10) (hz : setRange (cF x mp q) o [z] = cF x' mp q') : aStore 1 (Z (.ptr b o)) (Z z) σ = some (tt, σ.set b (.cells true (cF x' mp q'))) := by
  rw [aStore1_of h (by simpa [cF] using ho), hz]

set_option maxHeartbeats 2000000 in
theorem next_run' (d : Nat) (h : HG K s0 s b q x mp) (hq : FOk q) (hl : q.ever.length ≤ 8000) (e : Ent) : ∃ t y, R (d + 10) 96 [Z (.ptr b 0), AE e] s = some (I .i64 (asksP q e), t) ∧ HG K s0 t b (if asksP q e = 0 then nextP q e else q) y mp := by
  rw [f96_run]
  unfold f96
  have hll : q.l.length ≤ 8000 := Nat.le_trans hq.len hl
  obtain ⟨n, hn⟩ : ∃ n, n = s.size := ⟨_, rfl⟩
  obtain ⟨s1, hs1⟩ : ∃ s1, s1 = s.push (.cells true (cE e)) := ⟨_, rfl⟩
  have nw1 : aNew s (nBox (AE e)) = some (Z (.ptr n 0), s1) := by rw [hs1, hn]; rfl
  have g1 : Gr s s1 := by rw [hs1]; exact Gr.push h.gr.wf _
  have b1 : s1.get n = some (.cells true (cE e)) := by rw [hs1, hn]; exact St.get_push_same _ _
  have l1 := load8 (g := s1.get) b1
  have h1 := h.gr' g1
  obtain ⟨s2, e2, g2⟩ := stAsks_run d h1 hq hll e
  have h2 := h1.gr' g2
  have b2 : s2.get n = some (.cells true (cE e)) := g2.get b1 g1.wf
  by_cases ha : asksP q e = 0
  · rw [if_pos ha]
    rw [ha] at e2 ⊢
    have i2 : aLoad1 (Z (.ptr n 2)) s2.get = some (I .i64 e.i) := aLoad1_of b2 rfl
    obtain ⟨k, s3, e3, g3, hF⟩ := stAt_run (d + 6) h2 hll e.i
    have h3 := h2.gr' g3
    have b3 : s3.get n = some (.cells true (cE e)) := g3.get b2 g2.wf
    have hns3 := g3.wf.lt b3
    have k3 : aLoad1 (Z (.ptr n 0)) s3.get = some (I .i64 e.k) := aLoad1_of b3 rfl
    have hm : mayE e = true := by
      unfold asksP at ha
      by_cases hm : mayE e = true
      · exact hm
      · rw [if_neg hm] at ha; cases ha
    obtain ⟨v0, v1, k0, k1, q1, q2, q3, q4⟩ := mayE_range hm
    have hbs := h.gr.wf.lt h.st
    have hms := h.gr.wf.lt h.mpE
    have hbn : b ≠ n := by omega
    have hmn : mp ≠ n := by omega
    have hxn : ∀ c, own x = some c → c < n := fun c hc => by rw [hn]; exact h.ins.lt h.gr.wf hc
    have hbm := h.bm
    simp only [Nat.add_assoc, Nat.reduceAdd] at e3
    have fin : ∀ (σ : St) (y : S) (q' : FoS), HG K s0 σ b q' y mp → σ.get n = some (.cells true (cE e)) → ∃ τ, aStore 1 (Z (.ptr b 9)) (I .i64 e.v) σ = some (tt, τ) ∧ aLoad1 (Z (.ptr n 1)) σ.get = some (I .i64 e.v) ∧ HG K s0 τ b ⟨q'.l, q'.ever, q'.rule, q'.v, e.v⟩ y mp := fun σ y q' H hb => by
      refine ⟨_, stSet (q' := ⟨q'.l, q'.ever, q'.rule, q'.v, e.v⟩) (x' := y) H.st (by omega) rfl, aLoad1_of hb rfl, ?_⟩
      have hbσ := H.gr.wf.lt H.st
      exact ⟨⟨St.wf_set H.gr.wf hbσ _, by simpa using H.gr.2.1, fun c hc hK => by rw [St.get_set_ne _ _ (fun e' => by subst e'; exact H.hb hc hK)]; exact H.gr.2.2 c hc hK⟩, H.hb, H.hm, St.get_set_same _ _ _, by rw [St.get_set_ne _ _ (Ne.symm H.bm)]; exact H.mpE,
        H.ins.keep fun c hc => St.get_set_ne _ _ (H.ow c hc).2.1, H.ow⟩
    unfold nextP
    rcases (by omega : e.k = 1 ∨ e.k = 2 ∨ e.k = 3 ∨ e.k = 4) with hk | hk | hk | hk
    · -- a segment comes
      rw [if_pos hk]
      obtain ⟨hx0, i0, i1, _⟩ := q1 hk
      have hni : e.i ∉ q.ever := by
        unfold asksP at ha
        rw [if_pos hm] at ha
        intro hin
        rw [if_pos ⟨hk, hin⟩] at ha
        cases ha
      obtain ⟨hkk, _⟩ := found_eq hF hq.up hq.rng i0 i1
      subst hkk
      have m3 : aLoad1 (Z (.ptr b 1)) s3.get = some (Z (.map mp)) := aLoad1_of h3.st rfl
      have i3 : aLoad1 (Z (.ptr n 2)) s3.get = some (I .i64 e.i) := aLoad1_of b3 rfl
      have ms := mset_ever h3.mpE hni
      obtain ⟨s4, hs4⟩ : ∃ s4, s4 = s3.set mp (.map (mapE (q.ever ++ [e.i]))) := ⟨_, rfl⟩
      rw [← hs4] at ms
      have hms3 := g3.wf.lt h3.mpE
      have o4 : ∀ c, c ≠ mp → s4.get c = s3.get c := fun c hc => by rw [hs4]; exact St.get_set_ne _ _ hc
      have wf4 : s4.wf := by rw [hs4]; exact St.wf_set g3.wf hms3 _
      have z4 : s4.size = s3.size := by rw [hs4]; simp
      have b4 : s4.get n = some (.cells true (cE e)) := by rw [o4 n (Ne.symm hmn)]; exact b3
      have st4 : s4.get b = some (.cells true (cF x mp q)) := by rw [o4 b hbm]; exact h3.st
      have x4 : aLoad1 (Z (.ptr b 0)) s4.get = some (Z x) := aLoad1_of st4 rfl
      have f2 : aLoad1 (Z (.ptr n 2)) s4.get = some (I .i64 e.i) := aLoad1_of b4 rfl
      have f3 : aLoad1 (Z (.ptr n 3)) s4.get = some (I .i64 e.t) := aLoad1_of b4 rfl
      have f4 : aLoad1 (Z (.ptr n 4)) s4.get = some (I .i64 e.f) := aLoad1_of b4 rfl
      have f5 : aLoad1 (Z (.ptr n 5)) s4.get = some (I .i64 e.o) := aLoad1_of b4 rfl
      have f6 : aLoad1 (Z (.ptr n 6)) s4.get = some (I .u32 e.u) := aLoad1_of b4 rfl
      have ag : asAggT (aFill [.int .i64 0, .int .i64 0, .int .i64 0, .int .i64 0, .int .u32 0] [(0, 1, I .i64 e.i), (1, 1, I .i64 e.t), (2, 1, I .i64 e.f), (3, 1, I .i64 e.o), (4, 1, I .u32 e.u)]) = some (AI (infE e)) := rfl
      obtain ⟨s5, hs5⟩ : ∃ s5, s5 = s4.push (.cells true (cI (infE e))) := ⟨_, rfl⟩
      have nw5 : aNew s4 (nSlice 1 (aFill [.int .i64 0, .int .i64 0, .int .i64 0, .int .i64 0, .int .u32 0] [(0, 5, AI (infE e))])) = some (Z (.sl s4.size 0 1 (.known 1)), s5) := by rw [hs5]; rfl
      have g5 : Gr s4 s5 := by rw [hs5]; exact Gr.push wf4 _
      have j5 : s5.get s4.size = some (.cells true (cI (infE e))) := by rw [hs5]; exact St.get_push_same _ _
      have ins4 : InS s4 x q.l := h3.ins.keep fun c hc => o4 c (h.ow c hc).2.2
      have ins5 : InS s5 x q.l := ins4.keep fun c hc => g5.2.2 c (ins4.lt wf4 hc)
      obtain ⟨y, s6, e6, N6⟩ := ins_run (d + 8) g5.wf ins5 hll (kOf_le q.l e.i) j5 (fun c hc => by have := ins4.lt wf4 hc; omega)
      have z5 : s4.size < s5.size := by rw [hs5]; simp
      have xb : own x ≠ some b := fun hc => (h.ow b hc).2.1 rfl
      have xm : own x ≠ some mp := fun hc => (h.ow mp hc).2.2 rfl
      have xn : own x ≠ some n := fun hc => by have := hxn n hc; omega
      have st6 : s6.get b = some (.cells true (cF x mp q)) := by rw [N6.old b (by omega) xb, g5.2.2 b (by omega)]; exact st4
      have mp6 : s6.get mp = some (.map (mapE (q.ever ++ [e.i]))) := by rw [N6.old mp (by omega) xm, g5.2.2 mp (by omega), hs4]; exact St.get_set_same _ _ _
      have b6 : s6.get n = some (.cells true (cE e)) := by rw [N6.old n (by omega) xn, g5.2.2 n (by omega)]; exact b4
      obtain ⟨Q, hQ⟩ : ∃ Q : FoS, Q = ⟨insL q.l (infE e), q.ever ++ [e.i], q.rule, q.v, q.w⟩ := ⟨_, rfl⟩
      have sS := stSet (q' := Q) (x' := y) (z := y) st6 (show 0 < 10 by omega) (by rw [hQ]; rfl)
      obtain ⟨s7, hs7⟩ : ∃ s7, s7 = s6.set b (.cells true (cF y mp Q)) := ⟨_, rfl⟩
      rw [← hs7] at sS
      have yo : ∀ c, own y = some c → (c < s0.size → ¬ K c) ∧ c ≠ b ∧ c ≠ mp := fun c hc => by
        rcases N6.new c hc with hx | hx
        · exact h.ow c hx
        · have := h.gr.2.1
          exact ⟨fun h' => absurd h' (by omega), by omega, by omega⟩
      have H7 : HG K s0 s7 b Q y mp := by
        have hb6 := N6.wf.lt st6
        refine ⟨⟨by rw [hs7]; exact St.wf_set N6.wf hb6 _, ?_, fun c hc hK => ?_⟩, h.hb, h.hm, by rw [hs7]; exact St.get_set_same _ _ _, ?_, ?_, yo⟩
        · rw [hs7]
          have := h.gr.2.1; have := g1.2.1; have := g2.2.1; have := g3.2.1; have := N6.le
          simp only [St.size_set]; omega
        · have h01 := h.gr.2.1
          rw [hs7, St.get_set_ne _ _ (fun e' => by subst e'; exact h.hb hc hK), N6.old c (by omega) (fun hc' => (h.ow c hc').1 hc hK), g5.2.2 c (by omega), o4 c (fun e' => by subst e'; exact h.hm hc hK)]
          exact h3.gr.2.2 c hc hK
        · rw [hs7, St.get_set_ne _ _ (Ne.symm hbm), mp6, hQ]
        · rw [hQ]
          exact N6.ins.keep fun c hc => by rw [hs7]; exact St.get_set_ne _ _ (yo c hc).2.1
      have b7 : s7.get n = some (.cells true (cE e)) := by rw [hs7, St.get_set_ne _ _ (Ne.symm hbn)]; exact b6
      obtain ⟨s8, st8, ld8, H8⟩ := fin s7 y Q H7 b7
      rw [hQ] at H8
      refine ⟨s8, y, ?_, H8⟩
      clear fin
      simp only [Nat.add_assoc, Nat.reduceAdd] at e6
      generalize R (d + 9) = r at *
      generalize ((kOf q.l e.i : Nat) : Int) = K at *
      generalize hitI q.l e.i (kOf q.l e.i) = hit at *
      simp [nw1, l1, e2, i2, e3, aExtract, k3, hk, m3, i3, ms, x4, f2, f3, f4, f5, f6, ag, nw5, e6, sS, ld8, st8, gtt]
    · -- a segment goes
      rw [if_neg (by omega), if_pos hk]
      obtain ⟨i0, i1, _⟩ := q2 hk
      obtain ⟨hkk, hhit⟩ := found_eq hF hq.up hq.rng i0 i1
      have hth : thereP q.l e.i = true := by
        unfold asksP at ha
        rw [if_pos hm, if_neg (by omega)] at ha
        cases ht : thereP q.l e.i with
        | true => rfl
        | false => rw [if_pos ⟨hk, ht⟩] at ha; cases ha
      subst hkk
      have hkl := kOf_lt hq.up hth
      have x3 : aLoad1 (Z (.ptr b 0)) s3.get = some (Z x) := aLoad1_of h3.st rfl
      have w1 : IntKind.i64.wrap (((kOf q.l e.i : Nat) : Int) + 1) = ((kOf q.l e.i + 1 : Nat) : Int) := by rw [wrap_in _ (by omega) (by omega)]; omega
      obtain ⟨y, s6, e6, N6⟩ := del_run (d + 8) g3.wf h3.ins hll hkl
      have xb : own x ≠ some b := fun hc => (h.ow b hc).2.1 rfl
      have xm : own x ≠ some mp := fun hc => (h.ow mp hc).2.2 rfl
      have xn : own x ≠ some n := fun hc => by have := hxn n hc; omega
      have hb3 := g3.wf.lt h3.st
      have hm3 := g3.wf.lt h3.mpE
      have st6 : s6.get b = some (.cells true (cF x mp q)) := by rw [N6.old b hb3 xb]; exact h3.st
      have mp6 : s6.get mp = some (.map (mapE q.ever)) := by rw [N6.old mp hm3 xm]; exact h3.mpE
      have b6 : s6.get n = some (.cells true (cE e)) := by rw [N6.old n hns3 xn]; exact b3
      obtain ⟨Q, hQ⟩ : ∃ Q : FoS, Q = ⟨delL q.l e.i, q.ever, q.rule, q.v, q.w⟩ := ⟨_, rfl⟩
      have sS := stSet (q' := Q) (x' := y) (z := y) st6 (show 0 < 10 by omega) (by rw [hQ]; rfl)
      obtain ⟨s7, hs7⟩ : ∃ s7, s7 = s6.set b (.cells true (cF y mp Q)) := ⟨_, rfl⟩
      rw [← hs7] at sS
      have yo : ∀ c, own y = some c → (c < s0.size → ¬ K c) ∧ c ≠ b ∧ c ≠ mp := fun c hc => by
        rcases N6.new c hc with hx | hx
        · exact h.ow c hx
        · have := h3.gr.2.1
          exact ⟨fun h' => absurd h' (by omega), by omega, by omega⟩
      have H7 : HG K s0 s7 b Q y mp := by
        have hb6 := N6.wf.lt st6
        refine ⟨⟨by rw [hs7]; exact St.wf_set N6.wf hb6 _, ?_, fun c hc hK => ?_⟩, h.hb, h.hm, by rw [hs7]; exact St.get_set_same _ _ _, ?_, ?_, yo⟩
        · rw [hs7]
          have := h3.gr.2.1; have := N6.le
          simp only [St.size_set]; omega
        · have h03 := h3.gr.2.1
          rw [hs7, St.get_set_ne _ _ (fun e' => by subst e'; exact h.hb hc hK), N6.old c (by omega) (fun hc' => (h.ow c hc').1 hc hK)]
          exact h3.gr.2.2 c hc hK
        · rw [hs7, St.get_set_ne _ _ (Ne.symm hbm), mp6, hQ]
        · rw [hQ]
          exact N6.ins.keep fun c hc => by rw [hs7]; exact St.get_set_ne _ _ (yo c hc).2.1
      have b7 : s7.get n = some (.cells true (cE e)) := by rw [hs7, St.get_set_ne _ _ (Ne.symm hbn)]; exact b6
      obtain ⟨s8, st8, ld8, H8⟩ := fin s7 y Q H7 b7
      rw [hQ] at H8
      refine ⟨s8, y, ?_, H8⟩
      clear fin
      simp only [Nat.add_assoc, Nat.reduceAdd] at e6
      generalize R (d + 9) = r at *
      generalize ((kOf q.l e.i + 1 : Nat) : Int) = K1 at *
      generalize ((kOf q.l e.i : Nat) : Int) = K at *
      generalize hitI q.l e.i (kOf q.l e.i) = hit at *
      simp [nw1, l1, e2, i2, e3, aExtract, k3, hk, x3, w1, e6, sS, ld8, st8, gtt]
    · -- a view
      rw [if_neg (by omega), if_neg (by omega), if_pos hk]
      have v3 : aLoad1 (Z (.ptr n 1)) s3.get = some (I .i64 e.v) := aLoad1_of b3 rfl
      obtain ⟨Q, hQ⟩ : ∃ Q : FoS, Q = ⟨q.l, q.ever, q.rule, e.v, q.w⟩ := ⟨_, rfl⟩
      have sS := stSet (q' := Q) (x' := x) (z := .int .i64 e.v) h3.st (show 8 < 10 by omega) (by rw [hQ]; rfl)
      obtain ⟨s7, hs7⟩ : ∃ s7, s7 = s3.set b (.cells true (cF x mp Q)) := ⟨_, rfl⟩
      rw [← hs7] at sS
      have H7 : HG K s0 s7 b Q x mp := by
        have hb3 := g3.wf.lt h3.st
        refine ⟨⟨by rw [hs7]; exact St.wf_set g3.wf hb3 _, by rw [hs7]; simpa using h3.gr.2.1, fun c hc hK => by rw [hs7, St.get_set_ne _ _ (fun e' => by subst e'; exact h.hb hc hK)]; exact h3.gr.2.2 c hc hK⟩, h.hb, h.hm, by rw [hs7]; exact St.get_set_same _ _ _, ?_, ?_, h.ow⟩
        · rw [hs7, St.get_set_ne _ _ (Ne.symm hbm), h3.mpE, hQ]
        · rw [hQ]
          exact h3.ins.keep fun c hc => by rw [hs7]; exact St.get_set_ne _ _ (h.ow c hc).2.1
      have b7 : s7.get n = some (.cells true (cE e)) := by rw [hs7, St.get_set_ne _ _ (Ne.symm hbn)]; exact b3
      obtain ⟨s8, st8, ld8, H8⟩ := fin s7 x Q H7 b7
      rw [hQ] at H8
      refine ⟨s8, x, ?_, H8⟩
      clear fin
      generalize R (d + 9) = r at *
      generalize ((k : Nat) : Int) = K at *
      generalize hitI q.l e.i k = hit at *
      simp [nw1, l1, e2, i2, e3, aExtract, k3, hk, v3, sS, ld8, st8, gtt]
    · -- a rule
      rw [if_neg (by omega), if_neg (by omega), if_neg (by omega)]
      have x3 : aLoad1 (Z (.ptr n 7)) s3.get = some (Z (.str e.x)) := aLoad1_of b3 rfl
      have hxl := mayE_x hm
      obtain ⟨s4, e4, g4⟩ := parse_run (d + 2) g3.wf (l := e.x) (by omega)
      have h4 := h3.gr' g4
      have b4 : s4.get n = some (.cells true (cE e)) := g4.get b3 g3.wf
      obtain ⟨Q, hQ⟩ : ∃ Q : FoS, Q = ⟨q.l, q.ever, (parseP e.x).1, q.v, q.w⟩ := ⟨_, rfl⟩
      obtain ⟨p, hp⟩ : ∃ p, p = (parseP e.x).1 := ⟨_, rfl⟩
      rw [← hp] at e4 hQ
      have sS : aStore 6 (Z (.ptr b 2)) (AP p) s4 = some (tt, s4.set b (.cells true (cF x mp Q))) := by
        simp only [aStore, h4.st]
        rw [if_pos ⟨rfl, by simp [cF]⟩, hQ]
        rfl
      obtain ⟨s7, hs7⟩ : ∃ s7, s7 = s4.set b (.cells true (cF x mp Q)) := ⟨_, rfl⟩
      rw [← hs7] at sS
      have H7 : HG K s0 s7 b Q x mp := by
        have hb3 := g4.wf.lt h4.st
        refine ⟨⟨by rw [hs7]; exact St.wf_set g4.wf hb3 _, by rw [hs7]; simpa using h4.gr.2.1, fun c hc hK => by rw [hs7, St.get_set_ne _ _ (fun e' => by subst e'; exact h.hb hc hK)]; exact h4.gr.2.2 c hc hK⟩, h.hb, h.hm, by rw [hs7]; exact St.get_set_same _ _ _, ?_, ?_, h.ow⟩
        · rw [hs7, St.get_set_ne _ _ (Ne.symm hbm), h4.mpE, hQ]
        · rw [hQ]
          exact h4.ins.keep fun c hc => by rw [hs7]; exact St.get_set_ne _ _ (h.ow c hc).2.1
      have b7 : s7.get n = some (.cells true (cE e)) := by rw [hs7, St.get_set_ne _ _ (Ne.symm hbn)]; exact b4
      obtain ⟨s8, st8, ld8, H8⟩ := fin s7 x Q H7 b7
      rw [hQ, hp] at H8
      refine ⟨s8, x, ?_, H8⟩
      clear fin
      simp only [Nat.add_assoc, Nat.reduceAdd] at e4
      generalize R (d + 9) = r at *
      generalize ((k : Nat) : Int) = K at *
      generalize hitI q.l e.i k = hit at *
      simp [nw1, l1, e2, i2, e3, aExtract, k3, hk, x3, e4, sS, ld8, st8, gtt]
  · rw [if_neg ha]
    refine ⟨s2, x, ?_, h2⟩
    generalize R (d + 9) = r at *
    simp [nw1, l1, e2, ha]
end
end Go.Proofs.YtbohejffelipoaaGreatDoor


/-
  What entries come to. No conditions but those named in each line.
-/
namespace Go.Proofs.YtbohejffelipoaaGreatDoor
open Go Go.Abs Go.Abs.F
set_option linter.unusedVariables false
section
variable {s0 s t : St} {b mp : Nat} {q : FoS} {x y a : S} {l : List Inf}

theorem begin_run (d : Nat) (wf : s.wf) : ∃ b mp t, R (d + 2) 41 [] s = some (Z (.ptr b 0), t) ∧ HF s t b fs0 .nils mp := by
  rw [f41_run]
  unfold f41
  obtain ⟨s1, hs1⟩ : ∃ s1, s1 = s.push (.map []) := ⟨_, rfl⟩
  have nw1 : aNew s nMap = some (Z (.map s.size), s1) := by rw [hs1]; rfl
  have g1 : Gr s s1 := by rw [hs1]; exact Gr.push wf _
  have m1 : s1.get s.size = some (.map []) := by rw [hs1]; exact St.get_push_same _ _
  obtain ⟨s2, e2, g2⟩ := default_run d g1.wf
  have m2 := g2.get m1 g1.wf
  have hz := g2.wf.lt m2
  obtain ⟨s3, hs3⟩ : ∃ s3, s3 = s2.push (.cells true (cF .nils s.size fs0)) := ⟨_, rfl⟩
  have ag : asAggT (aFill [.nils, .nilm, .int .i64 0, .int .i64 0, .int .i64 0, .int .i64 0, .int .i64 0, .int .i64 0, .int .i64 0, .int .i64 0] [(1, 1, Z (.map s.size)), (2, 6, AP polD)]) = some (.v (.agg (cF .nils s.size fs0))) := rfl
  have nw3 : aNew s2 (nBox (.v (.agg (cF .nils s.size fs0)))) = some (Z (.ptr s2.size 0), s3) := by rw [hs3]; rfl
  have g3 : Gr s2 s3 := by rw [hs3]; exact Gr.push g2.wf _
  refine ⟨s2.size, s.size, s3, ?_, ⟨((g1.trans g2).trans g3).1, ((g1.trans g2).trans g3).2.1, fun c hc _ => ((g1.trans g2).trans g3).2.2 c hc⟩, fun h => absurd h (by have := (g1.trans g2).2.1; omega), fun h => absurd h (by omega), by rw [hs3]; exact St.get_push_same _ _, g3.get m2 g2.wf, .inl ⟨rfl, rfl⟩, fun c hc => by cases hc⟩
  generalize R (d + 1) = r at *
  simp [nw1, e2, ag, nw3]

theorem clone_run (d : Nat) (wf : s.wf) (h : InS s x l) (hl : l.length ≤ 8000) : ∃ y t, R (d + 1) 97 [Z x] s = some (Z y, t) ∧ Fr 5 s t y l.length (cells cI l) := by
  rw [f97_run]
  unfold f97
  have hrd := h.rd
  have hlt : ∀ c, own x = some c → c < s.size := fun c hc => h.lt wf hc
  have hcl := cells_len (e := 5) cI_len l
  rcases h with ⟨rfl, rfl⟩ | ⟨c, vs, rfl, hb, ht⟩
  · refine ⟨.nils, s, ?_, Fr.nil 5 wf⟩
    have : eqB .l (Z .nils) (Z .nils) = some (B true) := rfl
    simp [this]
  · have f0 := Fr.lit 5 wf (n := 0) (vs := []) rfl
    obtain ⟨y, t, e, f, _⟩ := f0.append (by_ := 40) (by omega) (hrd.gr hlt f0.gr).src hcl (by omega)
    have nw : aNew s (nSlice 0 (aFill [] [])) = some (Z (.sl s.size 0 0 (.known 0)), s.push (.cells true [])) := rfl
    have q1 : eqB .l (Z (.sl c 0 l.length (.grown 5))) (Z .nils) = some (B false) := rfl
    simp only [Nat.zero_add, List.nil_append] at f
    refine ⟨y, t, ?_, f⟩
    simp [q1, nw, e]

theorem infos_run (d : Nat) {K : Nat → Prop} (h : HG K s0 s b q x mp) (hl : q.l.length ≤ 8000) : ∃ y t, R (d + 2) 48 [Z (.ptr b 0)] s = some (Z y, t) ∧ Fr 5 s t y q.l.length (cells cI q.l) := by
  obtain ⟨y, t, e, f⟩ := clone_run d h.gr.wf h.ins hl
  refine ⟨y, t, ?_, f⟩
  rw [f48_run]
  unfold f48
  have l0 : aLoad1 (Z (.ptr b 0)) s.get = some (Z x) := aLoad1_of h.st rfl
  generalize R (d + 1) = r at *
  simp [l0, e]

theorem rule_load {g : Mem} (h : g b = some (.cells true (cF x mp q))) : aLoadN 6 (Z (.ptr b 2)) g = some (AP q.rule) := by
  simp only [aLoadN, h]
  rw [if_pos (by simp [cF])]
  rfl

def resFo (r : Int × FoS) (y : S) : T := if r.1 = 0 then .tup [.s y, .agg (cP r.2.rule), .s (.int .i64 r.2.v), .s (.int .i64 0)] else .tup [.s .nils, .agg (cP pol0), .s (.int .i64 0), .s (.int .i64 r.1)]

set_option maxHeartbeats 1000000 in
theorem fold_run (d : Nat) (wf : s.wf) {es : List Ent} (ha : RE s a es) (hoa : ∀ c, own a = some c → c < s.size) (hl : es.length ≤ 8000) : ∃ y t, R (d + 11) 126 [Z a] s = some (resFo (foldGo fs0 es) y, t) ∧ Gr s t ∧
    ((foldGo fs0 es).1 = 0 → Fr 5 s t y (foldGo fs0 es).2.l.length (cells cI (foldGo fs0 es).2.l)) := by
  rw [f126_run]
  unfold f126
  obtain ⟨rp, hrp⟩ : ∃ rp, rp = s.size := ⟨_, rfl⟩
  obtain ⟨s1, hs1⟩ : ∃ s1, s1 = s.push (.cells true (cP pol0)) := ⟨_, rfl⟩
  have nw1 : aNew s (nCells [.int .i64 0, .int .i64 0, .int .i64 0, .int .i64 0, .int .i64 0, .int .i64 0]) = some (Z (.ptr rp 0), s1) := by rw [hs1, hrp]; rfl
  have g1 : Gr s s1 := by rw [hs1]; exact Gr.push wf _
  have r1 : s1.get rp = some (.cells true (cP pol0)) := by rw [hs1, hrp]; exact St.get_push_same _ _
  have z1 : rp < s1.size := g1.wf.lt r1
  obtain ⟨b, mp0, s2, e2, h2⟩ := begin_run (d + 8) g1.wf
  simp only [Nat.add_assoc, Nat.reduceAdd] at e2
  have ll := ha.lens
  obtain ⟨j, τ, lp, hj⟩ := loops_inv (f := f126_l1 (R (d + 10)) 8192)
    (fun q v u => ∃ (k : Nat) (qs : FoS) (x : S) (mp : Nat), q + k = es.length ∧ v = [Z (.ptr rp 0), Z (.ptr b 0), Z a, I .i64 ((es.length : Nat) : Int), I .i64 ((k : Nat) : Int)] ∧ HF s1 u b qs x mp ∧ FOk qs ∧ qs.ever.length ≤ k ∧ foldGo qs (es.drop k) = foldGo fs0 es)
    (fun j u => (∃ (qs : FoS) (x : S) (mp : Nat), j = .exit 0 [Z (.ptr rp 0), Z (.ptr b 0)] ∧ HF s1 u b qs x mp ∧ qs.l.length ≤ 8000 ∧ foldGo fs0 es = (0, qs)) ∨ (j = .ret (resFo (foldGo fs0 es) .nils) ∧ (foldGo fs0 es).1 ≠ 0 ∧ Gr s u)) (by
    rintro q v u ⟨k, qs, x, mp, hk, rfl, H, hok, hev, hgo⟩
    by_cases hkl : k < es.length
    · have hc : es[k]? = some es[k] := List.getElem?_eq_getElem hkl
      obtain ⟨e, he⟩ : ∃ e, e = es[k] := ⟨_, rfl⟩
      rw [← he] at hc
      have hdr : es.drop k = e :: es.drop (k + 1) := by rw [List.drop_eq_getElem_cons hkl, he]
      have hau : RE u a es := (ha.gr hoa g1).gr (fun c hc => Nat.lt_of_lt_of_le (hoa c hc) g1.2.1) H.gr0
      obtain ⟨p, ix, ld⟩ := hau.atE (n := ((k : Nat) : Int)) rfl hc
      have c0 : ((k : Nat) : Int) < ((es.length : Nat) : Int) := by omega
      have w1 : IntKind.i64.wrap ((k : Int) + 1) = ((k + 1 : Nat) : Int) := by rw [wrap_in _ (by omega) (by omega)]; omega
      obtain ⟨u1, hu1⟩ : ∃ u1, u1 = u.push (.cells true (cE ent0)) := ⟨_, rfl⟩
      have nw3 : aNew u (nCells [.int .i64 0, .int .i64 0, .int .i64 0, .int .i64 0, .int .i64 0, .int .i64 0, .int .u32 0, .str []]) = some (Z (.ptr u.size 0), u1) := by rw [hu1]; rfl
      have b1 : u1.get u.size = some (.cells true (cE ent0)) := by rw [hu1]; exact St.get_push_same _ _
      have gu1 : Gr u u1 := by rw [hu1]; exact Gr.push H.gr0.wf _
      obtain ⟨u2, hu2⟩ : ∃ u2, u2 = u1.set u.size (.cells true (cE e)) := ⟨_, rfl⟩
      have st2 : aStore 8 (Z (.ptr u.size 0)) (AE e) u1 = some (tt, u2) := by rw [hu2]; exact store8 b1 rfl
      have gu2 : Gr u u2 := by
        rw [hu2]
        exact ⟨St.wf_set gu1.wf (gu1.wf.lt b1) _, by simpa using gu1.2.1, fun c hc => by rw [St.get_set_ne _ _ (by omega)]; exact gu1.2.2 c hc⟩
      have l2 : aLoadN 8 (Z (.ptr u.size 0)) u2.get = some (AE e) := load8 (by rw [hu2]; exact St.get_set_same _ _ _)
      obtain ⟨u3, y, e3, H3⟩ := next_run' d (H.gr' gu2) hok (by omega) e
      rw [hdr] at hgo
      have hgo' : (if asksP qs e = 0 then foldGo (nextP qs e) (es.drop (k + 1)) else (asksP qs e, qs)) = foldGo fs0 es := hgo
      by_cases hz : asksP qs e = 0
      · left
        rw [if_pos hz] at H3 hgo'
        rw [hz] at e3
        refine ⟨[Z (.ptr rp 0), Z (.ptr b 0), Z a, I .i64 ((es.length : Nat) : Int), I .i64 ((k + 1 : Nat) : Int)], u3, q - 1, ?_, by omega, k + 1, nextP qs e, y, mp, by omega, rfl, H3, next_ok hok hz, by have := next_ever (q := qs) (e := e); omega, hgo'⟩
        unfold f126_l1
        clear hgo hgo' hdr
        generalize R (d + 10) = r at *
        generalize ((k + 1 : Nat) : Int) = K1 at *
        generalize ((k : Nat) : Int) = K at *
        generalize ((es.length : Nat) : Int) = LL at *
        generalize u.size = us at *
        simp [c0, ix, ld, nw3, st2, gtt, l2, e3, w1]
      · right
        rw [if_neg hz] at H3 hgo'
        have r3 : u3.get rp = some (.cells true (cP pol0)) := by rw [H3.gr0.2.2 rp z1]; exact r1
        have sr : aStore 6 (Z (.ptr rp 0)) (AP pol0) u3 = some (tt, u3.set rp (.cells true (cP pol0))) := store6 r3 rfl
        obtain ⟨u4, hu4⟩ : ∃ u4, u4 = u3.set rp (.cells true (cP pol0)) := ⟨_, rfl⟩
        rw [← hu4] at sr
        have lr : aLoadN 6 (Z (.ptr rp 0)) u4.get = some (AP pol0) := load6 (by rw [hu4]; exact St.get_set_same _ _ _)
        have g04 : Gr s u4 := by
          rw [hu4]
          have h13 := g1.trans H3.gr0
          exact ⟨St.wf_set h13.wf (by have := H3.gr0.2.1; omega) _, by simpa using h13.2.1, fun c hc => by rw [St.get_set_ne _ _ (by omega)]; exact h13.2.2 c hc⟩
        refine ⟨.ret (resFo (foldGo fs0 es) .nils), u4, ?_, (fun v hv => by cases hv), .inr ⟨rfl, by rw [← hgo']; exact hz, g04⟩⟩
        have hres : resFo (foldGo fs0 es) .nils = .tup [.s .nils, .agg (cP pol0), .s (.int .i64 0), .s (.int .i64 (asksP qs e))] := by
          rw [← hgo']
          exact if_neg hz
        rw [hres]
        unfold f126_l1
        clear hgo hgo' hdr hres
        generalize R (d + 10) = r at *
        generalize ((k + 1 : Nat) : Int) = K1 at *
        generalize ((k : Nat) : Int) = K at *
        generalize ((es.length : Nat) : Int) = LL at *
        generalize u.size = us at *
        generalize asksP qs e = C at *
        simp [c0, ix, ld, nw3, st2, gtt, l2, e3, hz, agg6, sr, lr, rC, rT, retT, allV]
    · right
      have hke : k = es.length := by omega
      have c0 : ¬ ((k : Nat) : Int) < ((es.length : Nat) : Int) := by omega
      rw [List.drop_eq_nil_of_le (by omega)] at hgo
      refine ⟨.exit 0 [Z (.ptr rp 0), Z (.ptr b 0)], u, ?_, (fun v hv => by cases hv), .inl ⟨qs, x, mp, rfl, H, by have := hok.len; omega, hgo.symm⟩⟩
      unfold f126_l1
      simp [c0]) 8192 es.length [Z (.ptr rp 0), Z (.ptr b 0), Z a, I .i64 ((es.length : Nat) : Int), I .i64 0] s2
    ⟨0, fs0, .nils, mp0, by omega, rfl, h2, fs0_ok, Nat.le_refl _, by rw [List.drop_zero]⟩ (by omega)
  rcases hj with ⟨qs, x, mp, rfl, H, hql, hgo⟩ | ⟨rfl, hne, g⟩
  · obtain ⟨y, t, e4, f4⟩ := infos_run (d + 8) H hql
    simp only [Nat.add_assoc, Nat.reduceAdd] at e4
    have H4 := H.gr' f4.gr
    have a1 := rule_load H.st
    have a2 := rule_load H4.st
    have v1 : aLoad1 (Z (.ptr b 8)) τ.get = some (I .i64 qs.v) := aLoad1_of H.st rfl
    have v2 : aLoad1 (Z (.ptr b 8)) t.get = some (I .i64 qs.v) := aLoad1_of H4.st rfl
    have r4 : t.get rp = some (.cells true (cP pol0)) := by rw [H4.gr0.2.2 rp z1]; exact r1
    have sr : aStore 6 (Z (.ptr rp 0)) (AP qs.rule) t = some (tt, t.set rp (.cells true (cP qs.rule))) := store6 r4 rfl
    obtain ⟨u4, hu4⟩ : ∃ u4, u4 = t.set rp (.cells true (cP qs.rule)) := ⟨_, rfl⟩
    rw [← hu4] at sr
    have hbr : b ≠ rp := fun e' => H.hb (by omega) trivial
    have v3 : aLoad1 (Z (.ptr b 8)) u4.get = some (I .i64 qs.v) := aLoad1_of (by rw [hu4, St.get_set_ne _ _ hbr]; exact H4.st) rfl
    have lr : aLoadN 6 (Z (.ptr rp 0)) u4.get = some (AP qs.rule) := load6 (by rw [hu4]; exact St.get_set_same _ _ _)
    have h14 := g1.trans H4.gr0
    have hr4 := h14.wf.lt r4
    have g04 : Gr s u4 := by
      rw [hu4]
      exact ⟨St.wf_set h14.wf hr4 _, by simpa using h14.2.1, fun c hc => by rw [St.get_set_ne _ _ (by omega)]; exact h14.2.2 c hc⟩
    rw [hgo]
    have hres : resFo ((0 : Int), qs) y = .tup [.s y, .agg (cP qs.rule), .s (.int .i64 qs.v), .s (.int .i64 0)] := rfl
    refine ⟨y, u4, ?_, g04, fun _ => ?_⟩
    · rw [hres]
      clear hgo hres
      generalize R (d + 10) = r at *
      generalize ((es.length : Nat) : Int) = LL at *
      simp [nw1, e2, ll, lp, e4, a1, a2, v1, v2, v3, sr, gtt, lr, rC, rT, retT, allV]
    · have hτ : rp < τ.size := by have := H.gr.2.1; omega
      refine ⟨g04, f4.ow.keep fun c hc => ?_, fun c hc => ?_⟩
      · have := (f4.new c hc).1
        rw [hu4, St.get_set_ne _ _ (by omega)]
      · have := f4.new c hc
        have := H.gr.2.1
        have := g1.2.1
        rw [hu4]
        simp only [St.size_set]
        omega
  · refine ⟨.nils, τ, ?_, g, fun h => (hne h).elim⟩
    generalize resFo (foldGo fs0 es) .nils = RF at *
    generalize R (d + 10) = r at *
    generalize ((es.length : Nat) : Int) = LL at *
    simp [nw1, e2, ll, lp]
end
end Go.Proofs.YtbohejffelipoaaGreatDoor


/-
  Slices of bytes, and what a disk holds, in any store. No conditions but those named in each line.
-/
namespace Go.Proofs.YtbohejffelipoaaGreatDoor
open Go Go.Abs Go.Abs.F
set_option linter.unusedVariables false

abbrev RdL (s : St) (x : S) (l : List S) : Prop := Rd 1 s x l.length l

def BS (s : St) (x : S) (l : List S) : Prop :=
  (x = .nils ∧ l = []) ∨ (∃ c rows, x = .emp c 1 ∧ l = [] ∧ s.get c = some (.cells true rows)) ∨ ∃ c rows, x = .sl c 0 l.length (.grown 1) ∧ s.get c = some (.cells true rows) ∧ l.length ≤ rows.length ∧ rows.take l.length = l

theorem BS.rd {s : St} {x : S} {l : List S} (h : BS s x l) : RdL s x l := by
  rcases h with ⟨rfl, rfl⟩ | ⟨c, rows, rfl, rfl, _⟩ | ⟨c, rows, rfl, h1, h2, h3⟩
  · exact Rd.nil 1 s
  · exact ⟨rfl, .inl ⟨rfl, .inr (.inl ⟨c, 1, rfl⟩)⟩, rfl⟩
  · exact ⟨by simp, .inr ⟨c, 0, _, _, rows, rfl, h1, by omega, by simpa using h3⟩, rfl⟩

theorem BS.keep {s t : St} {x : S} {l : List S} (h : BS s x l) (hk : ∀ c, own x = some c → t.get c = s.get c) : BS t x l := by
  rcases h with h | ⟨c, rows, rfl, rfl, h1⟩ | ⟨c, rows, rfl, h1, h2, h3⟩
  · exact .inl h
  · exact .inr (.inl ⟨c, rows, rfl, rfl, by rw [hk c rfl]; exact h1⟩)
  · exact .inr (.inr ⟨c, rows, rfl, by rw [hk c rfl]; exact h1, h2, h3⟩)

theorem BS.lt {s : St} {x : S} {l : List S} (h : BS s x l) (wf : s.wf) {c : Nat} (hc : own x = some c) : c < s.size := by
  rcases h with ⟨rfl, rfl⟩ | ⟨c', rows, rfl, rfl, h1⟩ | ⟨c', rows, rfl, h1, h2, h3⟩
  · cases hc
  · cases hc; exact wf.lt h1
  · cases hc; exact wf.lt h1

theorem bs_append {s : St} {x y : S} {l xs : List S} (hb : BS s x l) (wf : s.wf) (hs : RdL s y xs) (hl : l.length + xs.length ≤ 100000) :
    ∃ x' t, aAppend 1 1 (Z x) (Z y) s = some (Z x', t) ∧ t.wf ∧ s.size ≤ t.size ∧ BS t x' (l ++ xs) ∧ (∀ b, b < s.size → own x ≠ some b → t.get b = s.get b) ∧ (own x' = none ∨ own x' = own x ∨ ∃ c, own x' = some c ∧ s.size ≤ c) := by
  have hsrc := hs.src
  have hB : (l.length + xs.length) * 1 ≤ 140737488355328 := by omega
  rcases hb with ⟨rfl, rfl⟩ | ⟨c, rows, rfl, rfl, h1⟩ | ⟨c, rows, rfl, h1, h2, h3⟩
  · by_cases hz : xs.length = 0
    · have : xs = [] := List.eq_nil_of_length_eq_zero hz
      subst this
      exact ⟨.nils, s, by simp [aAppend, hsrc], wf, Nat.le_refl _, .inl ⟨rfl, rfl⟩, fun _ _ _ => rfl, .inl rfl⟩
    · have hB2 : xs.length * 1 ≤ 140737488355328 := by omega
      refine ⟨.sl s.size 0 xs.length (.grown 1), s.push (.cells true xs), ?_, St.wf_push wf _, by simp, .inr (.inr ⟨s.size, xs, by simp, St.get_push_same _ _, by simp, by simp⟩), fun b hb _ => St.get_push_ne _ _ (by omega), .inr (.inr ⟨_, rfl, Nat.le_refl _⟩)⟩
      simp only [aAppend, hsrc, if_neg hz, if_pos hB2]
      rfl
  · have hcl := wf.lt h1
    by_cases hz : xs.length = 0
    · have : xs = [] := List.eq_nil_of_length_eq_zero hz
      subst this
      exact ⟨.emp c 1, s, by simp [aAppend, hsrc], wf, Nat.le_refl _, .inr (.inl ⟨c, rows, rfl, rfl, h1⟩), fun _ _ _ => rfl, .inr (.inl rfl)⟩
    · have hB2 : 1 = 1 ∧ xs.length * 1 ≤ 140737488355328 := ⟨rfl, by omega⟩
      have hg : ((s.set c .dead).push (.cells true xs)).get s.size = some (.cells true xs) := by
        have := St.get_push_same (s.set c .dead) (.cells true xs)
        rwa [St.size_set] at this
      refine ⟨.sl s.size 0 xs.length (.grown 1), (s.set c .dead).push (.cells true xs), ?_, St.wf_push (St.wf_set wf hcl _) _, by simp, .inr (.inr ⟨s.size, xs, by simp, hg, by simp, by simp⟩), fun b hb hbc => ?_, .inr (.inr ⟨_, rfl, Nat.le_refl _⟩)⟩
      · unfold aAppend
        rw [hsrc]
        dsimp only
        rw [if_neg (by decide), if_pos hB2, if_neg hz, h1]
      · have : b ≠ c := fun e => hbc (by rw [e]; rfl)
        rw [St.get_push_ne _ _ (by rw [St.size_set]; omega), St.get_set_ne _ _ this]
  · have hcl := wf.lt h1
    have hB2 : 1 = 1 ∧ (l.length + xs.length) * 1 ≤ 140737488355328 := ⟨rfl, hB⟩
    by_cases hz : xs.length = 0
    · have : xs = [] := List.eq_nil_of_length_eq_zero hz
      subst this
      refine ⟨.sl c 0 l.length (.grown 1), s, ?_, wf, Nat.le_refl _, .inr (.inr ⟨c, rows, by simp, h1, by simpa using h2, by simpa using h3⟩), fun _ _ _ => rfl, .inr (.inl rfl)⟩
      unfold aAppend
      rw [hsrc]
      dsimp only
      rw [if_neg (by decide), if_pos hB2, if_pos hz]
    · by_cases hf : l.length + xs.length ≤ rows.length
      · have hf2 : 0 + (l.length + xs.length) * 1 ≤ rows.length := by omega
        refine ⟨.sl c 0 (l.length + xs.length) (.grown 1), s.set c (.cells true (setRange rows (0 + l.length * 1) xs)), ?_, St.wf_set wf hcl _, by simp, .inr (.inr ⟨c, _, by simp, St.get_set_same _ _ _, by simpa using hf, ?_⟩), fun b hb hbc => ?_, .inr (.inl rfl)⟩
        · unfold aAppend
          rw [hsrc]
          dsimp only
          rw [if_neg (by decide), if_pos hB2, if_neg hz, h1]
          dsimp only
          rw [if_pos hf2]
        · rw [setRange_eq _ _ _ (by omega), List.length_append, show 0 + l.length * 1 = l.length by omega, h3]
          rw [List.take_append_of_le_length (by simp)]
          exact List.take_of_length_le (by simp)
        · have : b ≠ c := fun e => hbc (by rw [e]; rfl)
          exact St.get_set_ne _ _ this
      · have hf2 : ¬ 0 + (l.length + xs.length) * 1 ≤ rows.length := by omega
        have hf3 : 0 + l.length * 1 ≤ rows.length := by omega
        have hg : ((s.set c .dead).push (.cells true (l ++ xs))).get s.size = some (.cells true (l ++ xs)) := by
          have := St.get_push_same (s.set c .dead) (.cells true (l ++ xs))
          rwa [St.size_set] at this
        refine ⟨.sl s.size 0 (l.length + xs.length) (.grown 1), (s.set c .dead).push (.cells true (l ++ xs)), ?_, St.wf_push (St.wf_set wf hcl _) _, by simp, .inr (.inr ⟨s.size, l ++ xs, by simp, hg, by simp, by rw [List.take_length]⟩), fun b hb hbc => ?_, .inr (.inr ⟨_, rfl, Nat.le_refl _⟩)⟩
        · unfold aAppend
          rw [hsrc]
          dsimp only
          rw [if_neg (by decide), if_pos hB2, if_neg hz, h1]
          dsimp only
          rw [if_neg hf2, if_pos hf3, List.drop_zero, Nat.mul_one, h3]
        · have : b ≠ c := fun e => hbc (by rw [e]; rfl)
          rw [St.get_push_ne _ _ (by rw [St.size_set]; omega), St.get_set_ne _ _ this]

theorem bs_cut {s : St} {x : S} {l : List S} (hb : BS s x l) {k : Nat} (hk : k ≤ l.length) :
    ∃ x', aPieceSl 1 (Z x) none (some (I .i64 k)) none = some (Z x') ∧ BS s x' (l.take k) ∧ (own x' = none ∨ own x' = own x) := by
  rcases hb with ⟨rfl, rfl⟩ | ⟨c, rows, rfl, rfl, h1⟩ | ⟨c, rows, rfl, h1, h2, h3⟩
  · have : k = 0 := by simpa using hk
    subst this
    exact ⟨.nils, rfl, .inl ⟨rfl, rfl⟩, .inl rfl⟩
  · have : k = 0 := by simpa using hk
    subst this
    exact ⟨.emp c 1, rfl, .inr (.inl ⟨c, rows, rfl, rfl, h1⟩), .inr rfl⟩
  · by_cases hz : l.length = 0
    · have hl : l = [] := List.eq_nil_of_length_eq_zero hz
      subst hl
      have : k = 0 := by simpa using hk
      subst this
      exact ⟨.emp c 1, rfl, .inr (.inl ⟨c, rows, rfl, rfl, h1⟩), .inr rfl⟩
    · have hk' : (k : Int) ≤ (l.length : Int) := by omega
      have hpos : 0 < l.length := by omega
      refine ⟨.sl c 0 k (.grown 1), ?_, .inr (.inr ⟨c, rows, by rw [List.length_take, Nat.min_eq_left hk], h1, by rw [List.length_take]; omega, ?_⟩), .inr rfl⟩
      · unfold aPieceSl
        dsimp only
        rw [if_pos rfl, aBounds_hi hk]
        dsimp only
        rw [if_pos hpos]
        simp
      · rw [List.length_take, Nat.min_eq_left hk]
        have := congrArg (List.take k) h3
        rwa [List.take_take, Nat.min_eq_left hk] at this
end Go.Proofs.YtbohejffelipoaaGreatDoor


/-
  What the operations of a disk do, in any store. No conditions but those named in each line.
-/
namespace Go.Proofs.YtbohejffelipoaaGreatDoor
open Go Go.Abs Go.Abs.F
set_option linter.unusedVariables false

structure Fl where
  nm : List UInt8
  fb : Nat
  x : S
  l : List S
  sure : Nat

def ents (fs : List Fl) : List (S × V) := fs.map fun f => (S.str f.nm, V.s (.ptr f.fb 0))

structure Dk (s : St) (i m : Nat) (room : Int) (fs : List Fl) : Prop where
  wf : s.wf
  ri : s.get i = some (.cells true [.int .i64 room, .map m])
  mp : s.get m = some (.map (ents fs))
  fl : ∀ (k : Nat) (f : Fl), fs[k]? = some f → s.get f.fb = some (.cells true [f.x, .int .i64 f.sure]) ∧ BS s f.x f.l ∧ f.sure ≤ f.l.length ∧ f.l.length ≤ 50000 ∧ f.fb ≠ i ∧ f.fb ≠ m ∧ ∀ c, own f.x = some c → c ≠ i ∧ c ≠ m
  ap : ∀ (k k' : Nat) (f f' : Fl), fs[k]? = some f → fs[k']? = some f' → (k ≠ k' → f.fb ≠ f'.fb) ∧ ∀ c, own f.x = some c → c ≠ f'.fb ∧ (k ≠ k' → own f'.x ≠ some c)
  nm : (fs.map (·.nm)).Nodup

section
variable {s t : St} {i m : Nat} {room : Int} {fs : List Fl}

theorem Dk.gr (h : Dk s i m room fs) (g : Gr s t) : Dk t i m room fs := by
  obtain ⟨g1, g2, g3⟩ := g
  refine ⟨g1, by rw [g3 i (h.wf.lt h.ri)]; exact h.ri, by rw [g3 m (h.wf.lt h.mp)]; exact h.mp, fun k f hf => ?_, h.ap, h.nm⟩
  obtain ⟨a1, a2, a3⟩ := h.fl k f hf
  exact ⟨by rw [g3 _ (h.wf.lt a1)]; exact a1, a2.keep fun c hc => g3 c (a2.lt h.wf hc), a3⟩

theorem Dk.upd (h : Dk s i m room fs) {k : Nat} {f : Fl} (hk : fs[k]? = some f) {x' : S} {l' : List S} {sure' : Nat} (wf : t.wf) (hsz : s.size ≤ t.size) (hF : ∀ b, b < s.size → b ≠ f.fb → own f.x ≠ some b → t.get b = s.get b)
    (hfb : t.get f.fb = some (.cells true [x', .int .i64 sure'])) (hbs : BS t x' l') (hsure : sure' ≤ l'.length) (hl : l'.length ≤ 50000) (hx : own x' = none ∨ own x' = own f.x ∨ ∃ c, own x' = some c ∧ s.size ≤ c) :
    Dk t i m room (fs.set k { f with x := x', l := l', sure := sure' }) := by
  obtain ⟨a1, a2, a3, a4, a5, a6, a7⟩ := h.fl k f hk
  have hi := h.wf.lt h.ri
  have hm := h.wf.lt h.mp
  obtain ⟨hkl, hfk⟩ := List.getElem?_eq_some_iff.1 hk
  have hents : ents (fs.set k { f with x := x', l := l', sure := sure' }) = ents fs := by
    unfold ents
    rw [List.map_set]
    apply List.ext_getElem?
    intro j
    rw [List.getElem?_set]
    by_cases hj : k = j
    · subst hj
      simp [hkl, hfk]
    · simp [hj]
  have hnew : ∀ c, own x' = some c → own f.x = some c ∨ s.size ≤ c := fun c hc => by
    rcases hx with e | e | ⟨c', e, hc'⟩
    · rw [e] at hc; cases hc
    · exact .inl (e ▸ hc)
    · rw [e] at hc; cases hc; exact .inr hc'
  have hget : ∀ j g, (fs.set k { f with x := x', l := l', sure := sure' })[j]? = some g → (j = k ∧ g = { f with x := x', l := l', sure := sure' }) ∨ (j ≠ k ∧ fs[j]? = some g) := fun j g hg => by
    rw [List.getElem?_set] at hg
    by_cases hj : k = j
    · subst hj
      simp [hkl] at hg
      exact .inl ⟨rfl, hg.symm⟩
    · rw [if_neg hj] at hg
      exact .inr ⟨fun e => hj e.symm, hg⟩
  refine ⟨wf, by rw [hF i hi (Ne.symm a5) (fun e => (a7 i e).1 rfl)]; exact h.ri, by rw [hF m hm (Ne.symm a6) (fun e => (a7 m e).2 rfl), hents]; exact h.mp, fun j g hg => ?_, fun j j' g g' hg hg' => ?_, ?_⟩
  · rcases hget j g hg with ⟨rfl, rfl⟩ | ⟨hj, ho⟩
    · refine ⟨hfb, hbs, hsure, hl, a5, a6, fun c hc => ?_⟩
      rcases hnew c hc with e | e
      · exact a7 c e
      · exact ⟨by omega, by omega⟩
    · obtain ⟨b1, b2, b3⟩ := h.fl j g ho
      have p1 := (h.ap j k g f ho hk).1 hj
      refine ⟨by rw [hF _ (h.wf.lt b1) p1 (fun e => ((h.ap k j f g hk ho).2 _ e).1 rfl)]; exact b1, b2.keep fun c hc => hF c (b2.lt h.wf hc) ((h.ap j k g f ho hk).2 c hc).1 (fun e => ((h.ap k j f g hk ho).2 c e).2 (Ne.symm hj) hc), b3⟩
  · rcases hget j g hg with ⟨rfl, rfl⟩ | ⟨hj, ho⟩
    · rcases hget j' g' hg' with ⟨rfl, rfl⟩ | ⟨hj', ho'⟩
      · refine ⟨fun e => absurd rfl e, fun c hc => ⟨?_, fun e => absurd rfl e⟩⟩
        rcases hnew c hc with e | e
        · exact ((h.ap _ _ f f hk hk).2 c e).1
        · have := h.wf.lt a1
          show c ≠ f.fb
          omega
      · obtain ⟨b1, b2, _⟩ := h.fl j' g' ho'
        refine ⟨fun e => (h.ap _ j' f g' hk ho').1 e, fun c hc => ?_⟩
        rcases hnew c hc with e | e
        · exact (h.ap _ j' f g' hk ho').2 c e
        · have := h.wf.lt b1
          exact ⟨by omega, fun _ e' => by have := b2.lt h.wf e'; omega⟩
    · rcases hget j' g' hg' with ⟨rfl, rfl⟩ | ⟨hj', ho'⟩
      · obtain ⟨b1, b2, _⟩ := h.fl j g ho
        refine ⟨fun e => (h.ap j _ g f ho hk).1 e, fun c hc => ⟨((h.ap j _ g f ho hk).2 c hc).1, fun hne e => ?_⟩⟩
        rcases hnew c e with e' | e'
        · exact ((h.ap j _ g f ho hk).2 c hc).2 hne e'
        · have := b2.lt h.wf hc
          omega
      · exact h.ap j j' g g' ho ho'
  · have : (fs.set k { f with x := x', l := l', sure := sure' }).map (·.nm) = fs.map (·.nm) := by
      rw [List.map_set]
      apply List.ext_getElem?
      intro j
      rw [List.getElem?_set]
      by_cases hj : k = j
      · subst hj
        simp [hkl, hfk]
      · simp [hj]
    rw [this]
    exact h.nm

theorem dfind_at : ∀ (fs : List Fl) (k k0 : Nat) (f : Fl), (fs.map (·.nm)).Nodup → fs[k]? = some f → aFind (.str f.nm) (ents fs) k0 = some (some (k0 + k, V.s (.ptr f.fb 0))) := by
  intro fs
  induction fs with
  | nil => intro k k0 f _ h; simp at h
  | cons a r ih =>
    intro k k0 f hn hk
    rw [List.map_cons, List.nodup_cons] at hn
    cases k with
    | zero =>
      simp at hk
      subst hk
      simp [ents, aFind, keyEq]
    | succ k =>
      simp at hk
      have hne : f.nm ≠ a.nm := fun e => hn.1 (by rw [← e]; exact List.mem_map_of_mem (f := Fl.nm) (List.mem_of_getElem? hk))
      have := ih k (k0 + 1) f hn.2 hk
      have e1 : aFind (.str f.nm) (ents (a :: r)) k0 = aFind (.str f.nm) (ents r) (k0 + 1) := by simp [ents, aFind, keyEq, hne]
      rw [e1, this, show k0 + 1 + k = k0 + (k + 1) by omega]

theorem dfind_no : ∀ (fs : List Fl) (k0 : Nat) (n : List UInt8), (∀ f ∈ fs, f.nm ≠ n) → aFind (.str n) (ents fs) k0 = some none := by
  intro fs
  induction fs with
  | nil => intro k0 n _; rfl
  | cons a r ih =>
    intro k0 n h
    have hne : n ≠ a.nm := fun e => h a List.mem_cons_self e.symm
    have := ih (k0 + 1) n fun f hf => h f (List.mem_cons_of_mem _ hf)
    simpa [ents, aFind, keyEq, hne] using this

theorem Dk.ld0 (h : Dk s i m room fs) : aLoad1 (Z (.ptr i 0)) s.get = some (I .i64 room) := aLoad1_of h.ri rfl
theorem Dk.ld1 (h : Dk s i m room fs) : aLoad1 (Z (.ptr i 1)) s.get = some (Z (.map m)) := aLoad1_of h.ri rfl

theorem Dk.look (h : Dk s i m room fs) {k : Nat} {f : Fl} (hk : fs[k]? = some f) : Go.Abs.F.look .s false (.s (.nilp)) (Z (.map m)) (Z (.str f.nm)) s.get = some (Z (.ptr f.fb 0)) := by
  simp [Go.Abs.F.look, isKey, aLookup, h.mp, dfind_at fs k 0 f h.nm hk]

theorem Dk.lookNo (h : Dk s i m room fs) {n : List UInt8} (hn : ∀ f ∈ fs, f.nm ≠ n) : Go.Abs.F.look .s false (.s (.nilp)) (Z (.map m)) (Z (.str n)) s.get = some (Z .nilp) := by
  simp [Go.Abs.F.look, isKey, aLookup, h.mp, dfind_no fs 0 n hn]

def May (n : List UInt8) : Prop := ∀ (d : Nat) s, R (d + 1) 90 [Z (.str n)] s = some (B true, s)

theorem dfind_run (d : Nat) (h : Dk s i m room fs) {k : Nat} {f : Fl} (hk : fs[k]? = some f) (hm : May f.nm) : R (d + 2) 36 [Z (.ptr i 0), Z (.str f.nm)] s = some (.tup [.s (.ptr f.fb 0), .s (.int .i64 0)], s) := by
  have l1 := h.ld1
  have lk := h.look hk
  rw [f36_run]
  unfold f36
  have e' : R (d + 1) 90 [Z (.str f.nm)] s = some (B true, s) := hm d s
  generalize R (d + 1) = r at e' ⊢
  simp [e', l1, lk, retT, allV]

theorem dfind_none (d : Nat) (h : Dk s i m room fs) {n : List UInt8} (hn : ∀ f ∈ fs, f.nm ≠ n) (hm : May n) : R (d + 2) 36 [Z (.ptr i 0), Z (.str n)] s = some (.tup [.s .nilp, .s (.int .i64 9)], s) := by
  have l1 := h.ld1
  have lk := h.lookNo hn
  rw [f36_run]
  unfold f36
  have e' : R (d + 1) 90 [Z (.str n)] s = some (B true, s) := hm d s
  generalize R (d + 1) = r at e' ⊢
  simp [e', l1, lk, retT, allV]

theorem names_prim (d : Nat) (s : St) {a : List T} {r : T × St} (h : namesP 29 a s = some r) : R (d + 1) 29 a s = some r := runQ_prim ((orP_right rfl).trans (orP_left h))

theorem nkeysOf_ents : ∀ (fs : List Fl), (fs.map (·.nm)).Nodup → (∀ f ∈ fs, f.nm.length ≤ 1000) → nkeysOf (ents fs) = some (fs.map (·.nm)) := by
  intro fs
  induction fs with
  | nil => intro _ _; rfl
  | cons a r ih =>
    intro hn hl
    rw [List.map_cons, List.nodup_cons] at hn
    have h1 := ih hn.2 fun f hf => hl f (List.mem_cons_of_mem _ hf)
    have h2 : Nat.ble a.nm.length 1000 = true := Nat.ble_eq_true_of_le (hl a List.mem_cons_self)
    have h3 : (r.map (·.nm)).contains a.nm = false := by simpa using hn.1
    show nkeysOf ((S.str a.nm, V.s (.ptr a.fb 0)) :: ents r) = _
    unfold nkeysOf
    simp only [h1, h2, h3]
    rfl

theorem dnames_run (d : Nat) (h : Dk s i m room fs) (hl : ∀ f ∈ fs, f.nm.length ≤ 1000) (hf : fs.length ≤ 1000) :
    (fs = [] ∧ R (d + 1) 29 [Z (.ptr i 0)] s = some (Z .nils, s)) ∨ (fs ≠ [] ∧ R (d + 1) 29 [Z (.ptr i 0)] s = some (Z (.sl s.size 0 fs.length (.grown 1)), s.push (.cells false ((nsorted (fs.map (·.nm))).map S.str)))) := by
  have hk := nkeysOf_ents fs h.nm hl
  have hb : Nat.ble (ents fs).length 1000 = true := Nat.ble_eq_true_of_le (by simpa [ents] using hf)
  have hp : ∀ r, namesP 29 [Z (.ptr i 0)] s = some r → R (d + 1) 29 [Z (.ptr i 0)] s = some r := fun r hr => names_prim d s hr
  cases fs with
  | nil =>
    refine .inl ⟨rfl, hp _ ?_⟩
    have h1 := h.ri
    have h2 := h.mp
    unfold namesP
    simp only [h1, List.getElem?_cons_succ, List.getElem?_cons_zero, h2, hb, hk, List.map_nil, Nat.zero_add]
  | cons a r =>
    refine .inr ⟨by simp, hp _ ?_⟩
    have h1 := h.ri
    have h2 := h.mp
    unfold namesP
    simp only [h1, List.getElem?_cons_succ, List.getElem?_cons_zero, h2, hb, hk, List.map_cons, Nat.zero_add]
    simp
end
end Go.Proofs.YtbohejffelipoaaGreatDoor


/-
  Texts in Go's order. No conditions but those named in each line.
-/
namespace Go.Proofs.YtbohejffelipoaaGreatDoor
open Go Go.Abs Go.Abs.F
set_option linter.unusedVariables false

theorem lexLe_iff : ∀ a b : List UInt8, lexLe a b = true ↔ a ≤ b
  | [], b => by simp [lexLe]
  | x :: r, [] => by simp [lexLe]
  | x :: r, y :: t => by
    rw [List.cons_le_cons_iff, ← lexLe_iff r t]
    have hb : ∀ a b : Nat, Nat.blt a b = decide (a < b) := fun a b => by
      by_cases h : a < b
      · rw [decide_eq_true h]; simpa using h
      · rw [decide_eq_false h, ← Bool.not_eq_true]; simpa using h
    have he : ∀ a b : Nat, Nat.beq a b = decide (a = b) := fun a b => by
      by_cases h : a = b
      · rw [decide_eq_true h]; subst h; exact Nat.beq_refl a
      · rw [decide_eq_false h, ← Bool.not_eq_true]; exact fun e => h (Nat.eq_of_beq_eq_true e)
    rw [lexLe, hb, he]
    by_cases h : x.toNat < y.toNat
    · simp only [decide_eq_true h, true_iff]
      exact .inl (UInt8.lt_iff_toNat_lt.2 h)
    · have h2 : ¬ x < y := fun e => h (UInt8.lt_iff_toNat_lt.1 e)
      simp only [decide_eq_false h]
      by_cases e : x.toNat = y.toNat
      · have h4 : x = y := UInt8.toNat.inj e
        simp [h2, h4]
      · have h4 : x ≠ y := fun e' => e (by rw [e'])
        simp [e, h2, h4]

theorem nkeysOf_facts : ∀ {es : List (S × V)} {ks : List (List UInt8)}, nkeysOf es = some ks → es.map (·.1) = ks.map S.str ∧ ks.Nodup ∧ ∀ n ∈ ks, n.length ≤ 1000 := by
  intro es
  induction es with
  | nil => intro ks h; cases h; exact ⟨rfl, .nil, fun n hn => by cases hn⟩
  | cons p r ih =>
    intro ks h
    obtain ⟨k, v⟩ := p
    unfold nkeysOf at h
    split at h
    · rename_i heq; cases heq
    · rename_i n v' r' heq
      cases heq
      split at h
      · rename_i l hl
        split at h
        · rename_i hw
          cases h
          obtain ⟨h1, h2, h3⟩ := ih hl
          rw [Bool.and_eq_true] at hw
          have hn : n ∉ l := by simpa using hw.2
          refine ⟨by simp [h1], List.nodup_cons.2 ⟨hn, h2⟩, fun m hm => ?_⟩
          rcases List.mem_cons.1 hm with rfl | hm
          · exact Nat.le_of_ble_eq_true hw.1
          · exact h3 m hm
        · cases h
      · cases h
    · cases h

theorem nput_perm (n : List UInt8) : ∀ l : List (List UInt8), (nput n l).Perm (n :: l)
  | [] => .refl _
  | m :: r => by
    unfold nput
    cases lexLe n m with
    | true => exact .refl _
    | false => exact ((nput_perm n r).cons m).trans (.swap n m r)

theorem nput_sorted (n : List UInt8) : ∀ l : List (List UInt8), l.Pairwise (· ≤ ·) → (nput n l).Pairwise (· ≤ ·)
  | [], _ => List.pairwise_singleton _ _
  | m :: r, h => by
    unfold nput
    cases hd : lexLe n m with
    | true =>
      have hd' := (lexLe_iff n m).1 hd
      refine List.pairwise_cons.2 ⟨fun x hx => ?_, h⟩
      rcases List.mem_cons.1 hx with rfl | hx
      · exact hd'
      · exact List.le_trans hd' ((List.pairwise_cons.1 h).1 x hx)
    | false =>
      have hd' : m ≤ n := by
        rcases List.le_total m n with h | h
        · exact h
        · rw [(lexLe_iff n m).2 h] at hd; cases hd
      refine List.pairwise_cons.2 ⟨fun x hx => ?_, nput_sorted n r (List.pairwise_cons.1 h).2⟩
      rcases List.mem_cons.1 ((nput_perm n r).mem_iff.1 hx) with rfl | hx
      · exact hd'
      · exact (List.pairwise_cons.1 h).1 x hx

theorem nsorted_perm' : ∀ l : List (List UInt8), (nsorted l).Perm l
  | [] => .refl _
  | n :: r => (nput_perm n _).trans ((nsorted_perm' r).cons n)

theorem nsorted_sorted : ∀ l : List (List UInt8), (nsorted l).Pairwise (· ≤ ·)
  | [] => .nil
  | n :: r => nput_sorted n _ (nsorted_sorted r)

theorem nsorted_merge (l : List (List UInt8)) : l.mergeSort (fun x y => decide (x ≤ y)) = nsorted l := by
  have h1 : (l.mergeSort (fun x y => decide (x ≤ y))).Perm (nsorted l) := (List.mergeSort_perm _ _).trans (nsorted_perm' l).symm
  have h2 : (l.mergeSort (fun x y => decide (x ≤ y))).Pairwise (· ≤ ·) := by
    have := List.pairwise_mergeSort (le := fun x y : List UInt8 => decide (x ≤ y)) (by intro a b c; simp only [decide_eq_true_eq]; exact List.le_trans) (by intro a b; simp only [Bool.or_eq_true, decide_eq_true_eq]; exact List.le_total a b) l
    exact this.imp fun h => by simpa using h
  exact h1.eq_of_pairwise (fun a b _ _ h h' => List.le_antisymm h h') h2 (nsorted_sorted l)
end Go.Proofs.YtbohejffelipoaaGreatDoor


/-
  What the operations of a disk do, in any store: the room in use, appending, syncing, cutting, reading, a crash of one file. No conditions but those named in each line.
-/
namespace Go.Proofs.YtbohejffelipoaaGreatDoor
open Go Go.Abs Go.Abs.F
set_option linter.unusedVariables false

def tot (fs : List Fl) : Nat := (fs.map (·.l.length)).sum

def lenOf : List Fl → List UInt8 → Nat
  | [], _ => 0
  | f :: r, n => if f.nm = n then f.l.length else lenOf r n

theorem lenOf_at : ∀ (fs : List Fl) (k : Nat) (f : Fl), (fs.map (·.nm)).Nodup → fs[k]? = some f → lenOf fs f.nm = f.l.length := by
  intro fs
  induction fs with
  | nil => intro k f _ h; simp at h
  | cons a r ih =>
    intro k f hn hk
    rw [List.map_cons, List.nodup_cons] at hn
    cases k with
    | zero => simp at hk; subst hk; simp [lenOf]
    | succ k =>
      simp at hk
      have hne : a.nm ≠ f.nm := fun e => hn.1 (by rw [e]; exact List.mem_map_of_mem (f := Fl.nm) (List.mem_of_getElem? hk))
      simp only [lenOf, if_neg hne]
      exact ih k f hn.2 hk

theorem sum_perm {l r : List Nat} (h : l.Perm r) : l.sum = r.sum := by
  induction h with
  | nil => rfl
  | cons a _ ih => simp [ih]
  | swap a b l => simp; omega
  | trans _ _ ih1 ih2 => exact ih1.trans ih2

theorem tot_sorted {fs : List Fl} (hn : (fs.map (·.nm)).Nodup) : ((nsorted (fs.map (·.nm))).map (lenOf fs)).sum = tot fs := by
  rw [sum_perm ((nsorted_perm' _).map (lenOf fs)), List.map_map]
  unfold tot
  congr 1
  apply List.map_congr_left
  intro f hf
  obtain ⟨k, hk⟩ := List.getElem?_of_mem hf
  exact lenOf_at fs k f hn hk

section
variable {s t : St} {i m : Nat} {room : Int} {fs : List Fl}

theorem tot_le : ∀ (fs : List Fl), (∀ f ∈ fs, f.l.length ≤ 50000) → tot fs ≤ 50000 * fs.length := by
  intro fs
  induction fs with
  | nil => intro _; simp [tot]
  | cons a r ih =>
    intro h
    have h1 := ih fun f hf => h f (List.mem_cons_of_mem _ hf)
    have h2 := h a List.mem_cons_self
    simp only [tot, List.map_cons, List.sum_cons, List.length_cons] at h1 ⊢
    omega

theorem part_le {ks : List (List UInt8)} {fs : List Fl} (j : Nat) : ((ks.take j).map (lenOf fs)).sum ≤ (ks.map (lenOf fs)).sum := by
  have : ks.map (lenOf fs) = (ks.take j).map (lenOf fs) ++ (ks.drop j).map (lenOf fs) := by rw [← List.map_append, List.take_append_drop]
  rw [this, List.sum_append]
  omega

theorem dused_run (d : Nat) (h : Dk s i m room fs) (hl : ∀ f ∈ fs, f.nm.length ≤ 1000) (hf : fs.length ≤ 500) : ∃ t, R (d + 2) 30 [Z (.ptr i 0)] s = some (I .i64 (tot fs), t) ∧ Gr s t := by
  rw [f30_run]
  unfold f30
  rcases dnames_run d h hl (by omega) with ⟨rfl, e⟩ | ⟨hne, e⟩
  · refine ⟨s, ?_, Gr.refl h.wf⟩
    generalize R (d + 1) = r at e ⊢
    have lp : loops (f30_l1 r 8192) 8192 [Z (.ptr i 0), I .i64 0, Z .nils, I .i64 0, I .i64 0] s = some (.exit 0 [I .i64 0], s) := by
      rw [show (8192 : Nat) = 8191 + 1 from rfl, loops]
      have : f30_l1 r 8192 [Z (.ptr i 0), I .i64 0, Z .nils, I .i64 0, I .i64 0] s = some (.exit 0 [I .i64 0], s) := by
        unfold f30_l1
        simp
      rw [this]
    simp [e, lp, tot]
  · obtain ⟨ks, hks⟩ : ∃ ks, ks = nsorted (fs.map (·.nm)) := ⟨_, rfl⟩
    rw [← hks] at e
    obtain ⟨t, ht⟩ : ∃ t, t = s.push (.cells false (ks.map S.str)) := ⟨_, rfl⟩
    rw [← ht] at e
    have g : Gr s t := by rw [ht]; exact Gr.push h.wf _
    have hg := h.gr g
    have hkl : ks.length = fs.length := by rw [hks, (nsorted_perm' _).length_eq, List.length_map]
    have hts := tot_sorted h.nm
    rw [← hks] at hts
    have htl := tot_le fs fun f hf => by
      obtain ⟨k, hk⟩ := List.getElem?_of_mem hf
      exact (h.fl k f hk).2.2.2.1
    have hblk : t.get s.size = some (.cells false (ks.map S.str)) := by rw [ht]; exact St.get_push_same _ _
    refine ⟨t, ?_, g⟩
    generalize R (d + 1) = r at e ⊢
    obtain ⟨j, τ, hlp, hj, hτ⟩ := loops_inv (f := f30_l1 r 8192) (fun k v u => ∃ j : Nat, k + j = fs.length ∧ v = [Z (.ptr i 0), I .i64 (((ks.take j).map (lenOf fs)).sum : Nat), Z (.sl s.size 0 fs.length (.grown 1)), I .i64 fs.length, I .i64 j] ∧ u = t) (fun j u => j = .exit 0 [I .i64 (tot fs)] ∧ u = t) (by
      rintro k v u ⟨j, hk, rfl, rfl⟩
      by_cases hj : j < fs.length
      · left
        obtain ⟨nm, hnm⟩ : ∃ nm, ks[j]? = some nm := ⟨_, List.getElem?_eq_getElem (by omega)⟩
        have hmem : nm ∈ fs.map (·.nm) := (nsorted_perm' _).mem_iff.1 (by rw [← hks]; exact List.mem_of_getElem? hnm)
        obtain ⟨f, hfm, rfl⟩ := List.mem_map.1 hmem
        obtain ⟨q, hq⟩ := List.getElem?_of_mem hfm
        have ix : aIndexSl 1 (Z (.sl s.size 0 fs.length (.grown 1))) (I .i64 j) = some (Z (.ptr s.size j)) := by rw [aIndexSl_int rfl hj]; simp
        have ld : aLoad1 (Z (.ptr s.size j)) u.get = some (Z (.str f.nm)) := aLoad1_of hblk (by rw [List.getElem?_map, hnm]; rfl)
        have lk := hg.look hq
        obtain ⟨a1, a2, _⟩ := hg.fl q f hq
        have lf : aLoad1 (Z (.ptr f.fb 0)) u.get = some (Z f.x) := aLoad1_of a1 rfl
        have ll := a2.rd.lens
        have hpart := part_le (ks := ks) (fs := fs) (j + 1)
        have hsum : ((ks.take (j + 1)).map (lenOf fs)).sum = ((ks.take j).map (lenOf fs)).sum + f.l.length := by
          rw [List.take_add_one, hnm, List.map_append, List.sum_append]
          simp [lenOf_at fs q f h.nm hq]
        have w1 : IntKind.i64.wrap ((((ks.take j).map (lenOf fs)).sum : Nat) + f.l.length : Int) = (((ks.take (j + 1)).map (lenOf fs)).sum : Nat) := by
          rw [wrap_in _ (by omega) (by omega), hsum]
          omega
        have w2 : IntKind.i64.wrap ((j : Int) + 1) = (j : Int) + 1 := wrap_in _ (by omega) (by omega)
        have hlt : (j : Int) < (fs.length : Int) := by omega
        have l1 := hg.ld1
        refine ⟨[Z (.ptr i 0), I .i64 (((ks.take (j + 1)).map (lenOf fs)).sum : Nat), Z (.sl s.size 0 fs.length (.grown 1)), I .i64 fs.length, I .i64 ((j : Int) + 1)], u, k - 1, ?_, by omega, j + 1, by omega, by simp, rfl⟩
        generalize ((ks.take j).map (lenOf fs)).sum = A at w1 ⊢
        generalize ((ks.take (j + 1)).map (lenOf fs)).sum = A' at w1 ⊢
        unfold f30_l1
        simp [hlt, ix, ld, l1, lk, lf, ll, w1, w2]
      · right
        have hlt : ¬ (j : Int) < (fs.length : Int) := by omega
        have hj' : j = fs.length := by omega
        have htk : ks.take j = ks := List.take_of_length_le (by omega)
        refine ⟨_, u, ?_, (fun v hv => by cases hv), rfl, rfl⟩
        rw [htk, hts]
        unfold f30_l1
        simp [hlt]) 8192 fs.length [Z (.ptr i 0), I .i64 0, Z (.sl s.size 0 fs.length (.grown 1)), I .i64 fs.length, I .i64 0] t ⟨0, by omega, by simp, rfl⟩ (by omega)
    subst hj; subst hτ
    simp [e, hlp]

def Nice (fs : List Fl) : Prop := (∀ f ∈ fs, f.nm.length ≤ 1000) ∧ fs.length ≤ 100

theorem dappend_run (d : Nat) (h : Dk s i m room fs) (hn : Nice fs) {k : Nat} {f : Fl} (hk : fs[k]? = some f) (hm : May f.nm) {y : S} {xs : List S} (hy : RdL s y xs) (hyb : ∀ c, own y = some c → c < s.size)
    (hroom : (tot fs : Int) + xs.length ≤ room) (hlen : xs.length ≤ 40000) (hfl : f.l.length + xs.length ≤ 50000) :
    ∃ x' t, R (d + 3) 12 [Z (.ptr i 0), Z (.str f.nm), Z y] s = some (I .i64 0, t) ∧ Dk t i m room (fs.set k { f with x := x', l := f.l ++ xs, sure := f.sure }) ∧ s.size ≤ t.size ∧
      (∀ b, b < s.size → b ≠ f.fb → own f.x ≠ some b → t.get b = s.get b) ∧ (own x' = none ∨ own x' = own f.x ∨ ∃ c, own x' = some c ∧ s.size ≤ c) := by
  rw [f12_run]
  unfold f12
  have e1 := dfind_run d h hk hm
  obtain ⟨s1, e2, g⟩ := dused_run d h hn.1 (by have := hn.2; omega)
  have h1 := h.gr g
  obtain ⟨a1, a2, a3, a4, a5, a6, a7⟩ := h1.fl k f hk
  have hy1 : RdL s1 y xs := hy.keep fun c hc => g.2.2 c (hyb c hc)
  obtain ⟨x', t, ap, q1, q2, q3, q4, q5⟩ := bs_append a2 h1.wf hy1 (by omega)
  have l0 := h.ld0
  have l0' := h1.ld0
  have lf : aLoad1 (Z (.ptr f.fb 0)) s1.get = some (Z f.x) := aLoad1_of a1 rfl
  have htl := tot_le fs fun f hf => by
    obtain ⟨k, hk⟩ := List.getElem?_of_mem hf
    exact (h.fl k f hk).2.2.2.1
  have hfs := hn.2
  have w1 : IntKind.i64.wrap ((tot fs : Int) + xs.length) = (tot fs : Int) + xs.length := wrap_in _ (by omega) (by omega)
  have hr : ¬ room < (tot fs : Int) + xs.length := by omega
  have hll := hy.lens
  have hft : t.get f.fb = some (.cells true [f.x, .int .i64 f.sure]) := by
    rw [q4 f.fb (h1.wf.lt a1) (fun e => ((h1.ap k k f f hk hk).2 _ e).1 rfl)]
    exact a1
  have st : aStore 1 (Z (.ptr f.fb 0)) (Z x') t = some (tt, t.set f.fb (.cells true [x', .int .i64 f.sure])) := aStore1_of hft (by simp)
  have hs1 := g.2.1
  refine ⟨x', t.set f.fb (.cells true [x', .int .i64 f.sure]), ?_, ?_, by simp; omega, fun b hb hb1 hb2 => ?_, ?_⟩
  · generalize R (d + 2) = r at e1 e2 ⊢
    simp [e1, aExtract, e2, hll, l0, l0', w1, hr, lf, ap, st, wq]
  · refine h1.upd hk (St.wf_set q1 (by have := h1.wf.lt a1; omega) _) (by simpa using q2) (fun b hb hb1 hb2 => ?_) (St.get_set_same _ _ _) (q3.keep fun c hc => ?_) (by simp; omega) (by simp; omega) q5
    · rw [St.get_set_ne _ _ hb1]
      exact q4 b hb hb2
    · refine St.get_set_ne _ _ fun e => ?_
      have hlt := h1.wf.lt a1
      rcases q5 with e' | e' | ⟨c', e', hc'⟩
      · rw [e'] at hc; cases hc
      · rw [e'] at hc
        exact ((h1.ap k k f f hk hk).2 c hc).1 e
      · rw [e'] at hc
        cases hc
        omega
  · rw [St.get_set_ne _ _ hb1, q4 b (by omega) hb2]
    exact g.2.2 b hb
  · rcases q5 with e | e | ⟨c, e, hc⟩
    · exact .inl e
    · exact .inr (.inl e)
    · exact .inr (.inr ⟨c, e, by omega⟩)

theorem ents_append (fs : List Fl) (f : Fl) : ents (fs ++ [f]) = ents fs ++ [(S.str f.nm, V.s (.ptr f.fb 0))] := by simp [ents]

theorem Dk.more (h : Dk s i m room fs) {f : Fl} (hno : ∀ g ∈ fs, g.nm ≠ f.nm) (wf : t.wf) (hsz : s.size ≤ t.size) (hF : ∀ b, b < s.size → b ≠ m → t.get b = s.get b) (hm : t.get m = some (.map (ents (fs ++ [f]))))
    (hfb : t.get f.fb = some (.cells true [f.x, .int .i64 f.sure])) (hb : s.size ≤ f.fb) (hbs : BS t f.x f.l) (hsure : f.sure ≤ f.l.length) (hl : f.l.length ≤ 50000) (hx : ∀ c, own f.x = some c → s.size ≤ c ∧ c ≠ f.fb) :
    Dk t i m room (fs ++ [f]) := by
  have hi := h.wf.lt h.ri
  have hml := h.wf.lt h.mp
  have hmi : m ≠ i := fun e => by
    have h1 := h.mp
    rw [e, h.ri] at h1
    cases h1
  have hget : ∀ j g, (fs ++ [f])[j]? = some g → (j < fs.length ∧ fs[j]? = some g) ∨ (j = fs.length ∧ g = f) := fun j g hg => by
    by_cases hj : j < fs.length
    · rw [List.getElem?_append_left hj] at hg
      exact .inl ⟨hj, hg⟩
    · rw [List.getElem?_append_right (by omega)] at hg
      have : j - fs.length = 0 := by
        have := (List.getElem?_eq_some_iff.1 hg).1
        simp at this
        omega
      rw [this] at hg
      simp at hg
      exact .inr ⟨by omega, hg.symm⟩
  refine ⟨wf, by rw [hF i hi (Ne.symm hmi)]; exact h.ri, hm, fun j g hg => ?_, fun j j' g g' hg hg' => ?_, ?_⟩
  · rcases hget j g hg with ⟨hj, ho⟩ | ⟨rfl, rfl⟩
    · obtain ⟨b1, b2, b3, b4, b5, b6, b7⟩ := h.fl j g ho
      exact ⟨by rw [hF _ (h.wf.lt b1) b6]; exact b1, b2.keep fun c hc => hF c (b2.lt h.wf hc) (b7 c hc).2, b3, b4, b5, b6, b7⟩
    · exact ⟨hfb, hbs, hsure, hl, by omega, by omega, fun c hc => by have := (hx c hc).1; exact ⟨by omega, by omega⟩⟩
  · rcases hget j g hg with ⟨hj, ho⟩ | ⟨rfl, rfl⟩
    · obtain ⟨b1, b2, _⟩ := h.fl j g ho
      rcases hget j' g' hg' with ⟨hj', ho'⟩ | ⟨rfl, rfl⟩
      · exact h.ap j j' g g' ho ho'
      · have := h.wf.lt b1
        exact ⟨fun _ => by omega, fun c hc => by
          have := b2.lt h.wf hc
          exact ⟨by omega, fun _ e => by have := (hx c e).1; omega⟩⟩
    · rcases hget j' g' hg' with ⟨hj', ho'⟩ | ⟨rfl, rfl⟩
      · obtain ⟨b1, b2, _⟩ := h.fl j' g' ho'
        have := h.wf.lt b1
        exact ⟨fun _ => by omega, fun c hc => by
          have := (hx c hc).1
          exact ⟨by omega, fun _ e => by have := b2.lt h.wf e; omega⟩⟩
      · exact ⟨fun e => absurd rfl e, fun c hc => ⟨(hx c hc).2, fun e => absurd rfl e⟩⟩
  · rw [List.map_append, List.nodup_append]
    refine ⟨h.nm, by simp, fun a ha b hb' => ?_⟩
    obtain ⟨g, hg, rfl⟩ := List.mem_map.1 ha
    simp at hb'
    subst hb'
    exact hno g hg

theorem dappend_new (d : Nat) (h : Dk s i m room fs) (hn : Nice fs) {nm : List UInt8} (hno : ∀ g ∈ fs, g.nm ≠ nm) (hm : May nm) {y : S} {xs : List S} (hy : RdL s y xs) (hyb : ∀ c, own y = some c → c < s.size)
    (hym : own y ≠ some m) (hroom : (tot fs : Int) + xs.length ≤ room) (hlen : xs.length ≤ 40000) :
    ∃ x' fb t, R (d + 3) 12 [Z (.ptr i 0), Z (.str nm), Z y] s = some (I .i64 0, t) ∧ Dk t i m room (fs ++ [⟨nm, fb, x', xs, 0⟩]) ∧ s.size ≤ t.size ∧ (∀ b, b < s.size → b ≠ m → t.get b = s.get b) ∧ s.size ≤ fb ∧ (∀ c, own x' = some c → s.size ≤ c) := by
  rw [f12_run]
  unfold f12
  have e1 := dfind_none d h hno hm
  obtain ⟨s1, e2, g⟩ := dused_run d h hn.1 (by have := hn.2; omega)
  have h1 := h.gr g
  have hfs := hn.2
  have l0 := h.ld0
  have l0' := h1.ld0
  have l1 := h.ld1
  have hll := hy.lens
  have htl := tot_le fs fun f hf => by
    obtain ⟨k, hk⟩ := List.getElem?_of_mem hf
    exact (h.fl k f hk).2.2.2.1
  have w1 : IntKind.i64.wrap ((tot fs : Int) + xs.length) = (tot fs : Int) + xs.length := wrap_in _ (by omega) (by omega)
  have hr : ¬ room < (tot fs : Int) + xs.length := by omega
  have hlm : aLenMap (Z (.map m)) s.get = some (I .i64 fs.length) := by simp [aLenMap, h.mp, ents]
  have hfl : ¬ (fs.length : Int) = 200 := by omega
  obtain ⟨s2, hs2⟩ : ∃ s2, s2 = s1.push (.cells true [.nils, .int .i64 0]) := ⟨_, rfl⟩
  have g2 : Gr s1 s2 := by rw [hs2]; exact Gr.push h1.wf _
  have hfb2 : s2.get s1.size = some (.cells true [.nils, .int .i64 0]) := by rw [hs2]; exact St.get_push_same _ _
  have h2 := h1.gr g2
  have l2 := h2.ld1
  have nw : aNew s1 (nBox (.v (.agg [.nils, .int .i64 0]))) = some (Z (.ptr s1.size 0), s2) := by simp [aNew, nBox, V.cells, hs2]
  obtain ⟨s3, hs3⟩ : ∃ s3, s3 = s2.set m (.map (ents fs ++ [(S.str nm, V.s (.ptr s1.size 0))])) := ⟨_, rfl⟩
  have ms : mset .s (Z (.map m)) (Z (.str nm)) (Z (.ptr s1.size 0)) s2 = some (tt, s3) := by
    simp [mset, isKey, aMapSet, h2.mp, dfind_no fs 0 nm hno, hs3]
  have hml := h2.wf.lt h2.mp
  have f3 : s3.wf := by rw [hs3]; exact St.wf_set h2.wf hml _
  have z3 : s3.size = s2.size := by rw [hs3]; rfl
  have k3 : ∀ b, b ≠ m → s3.get b = s2.get b := fun b hb => by rw [hs3, St.get_set_ne _ _ hb]
  have hm1 := h.wf.lt h.mp
  have hs1 := g.2.1
  have hs12 : s2.size = s1.size + 1 := by rw [hs2]; rfl
  have hfb3 : s3.get s1.size = some (.cells true [.nils, .int .i64 0]) := by rw [k3 _ (by omega)]; exact hfb2
  have lf : aLoad1 (Z (.ptr s1.size 0)) s3.get = some (Z .nils) := aLoad1_of hfb3 rfl
  have hy3 : RdL s3 y xs := hy.keep fun c hc => by
    have := hyb c hc
    rw [k3 c (fun e => hym (by rw [← e]; exact hc)), g2.2.2 c (by omega), g.2.2 c this]
  obtain ⟨x', t, ap, q1, q2, q3, q4, q5⟩ := bs_append (l := []) (.inl ⟨rfl, rfl⟩ : BS s3 .nils []) f3 hy3 (by simp; omega)
  have hft : t.get s1.size = some (.cells true [.nils, .int .i64 0]) := by rw [q4 s1.size (by omega) (by simp [own])]; exact hfb3
  have st : aStore 1 (Z (.ptr s1.size 0)) (Z x') t = some (tt, t.set s1.size (.cells true [x', .int .i64 0])) := aStore1_of hft (by simp)
  have hown : ∀ c, own x' = some c → s3.size ≤ c := fun c hc => by
    rcases q5 with e | e | ⟨c', e, hc'⟩
    · rw [e] at hc; cases hc
    · rw [e] at hc; cases hc
    · rw [e] at hc; cases hc; exact hc'
  refine ⟨x', s1.size, t.set s1.size (.cells true [x', .int .i64 0]), ?_, ?_, by simp; omega, fun b hb hb1 => ?_, hs1, fun c hc => by have := hown c hc; omega⟩
  · generalize R (d + 2) = r at e1 e2 ⊢
    have ag : asAggT (aFill [.nils, .int .i64 0] []) = some (.v (.agg [.nils, .int .i64 0])) := rfl
    simp [e1, aExtract, e2, hll, l0, l0', l1, hlm, hfl, w1, hr, ag, nw, l2, ms, lf, ap, st, wq]
  · have ht : ∀ b, b < s.size → b ≠ m → (t.set s1.size (.cells true [x', .int .i64 0])).get b = s.get b := fun b hb hb1 => by
      rw [St.get_set_ne _ _ (by omega), q4 b (by omega) (by simp [own]), k3 b hb1, g2.2.2 b (by omega), g.2.2 b hb]
    refine h.more (f := ⟨nm, s1.size, x', xs, 0⟩) hno (St.wf_set q1 (by omega) _) (by simp; omega) ht ?_ (St.get_set_same _ _ _) hs1 (q3.keep fun c hc => St.get_set_ne _ _ (by have := hown c hc; omega)) (by simp) (by simp; omega) fun c hc => by have := hown c hc; exact ⟨by omega, by show c ≠ s1.size; omega⟩
    rw [St.get_set_ne _ _ (by omega), q4 m (by omega) (by simp [own]), ents_append, hs3, St.get_set_same]
  · rw [St.get_set_ne _ _ (by omega), q4 b (by omega) (by simp [own]), k3 b hb1, g2.2.2 b (by omega), g.2.2 b hb]

theorem dsync_run (d : Nat) (h : Dk s i m room fs) {k : Nat} {f : Fl} (hk : fs[k]? = some f) (hm : May f.nm) :
    ∃ t, R (d + 3) 47 [Z (.ptr i 0), Z (.str f.nm)] s = some (I .i64 0, t) ∧ Dk t i m room (fs.set k { f with x := f.x, l := f.l, sure := f.l.length }) ∧ s.size ≤ t.size ∧ ∀ b, b ≠ f.fb → t.get b = s.get b := by
  rw [f47_run]
  unfold f47
  have e1 := dfind_run d h hk hm
  obtain ⟨a1, a2, a3, a4, a5, a6, a7⟩ := h.fl k f hk
  have lf : aLoad1 (Z (.ptr f.fb 0)) s.get = some (Z f.x) := aLoad1_of a1 rfl
  have ll := a2.rd.lens
  have st : aStore 1 (Z (.ptr f.fb 1)) (I .i64 f.l.length) s = some (tt, s.set f.fb (.cells true [f.x, .int .i64 f.l.length])) := aStore1_of a1 (by simp)
  have hfl := h.wf.lt a1
  refine ⟨s.set f.fb (.cells true [f.x, .int .i64 f.l.length]), ?_, ?_, by simp, fun b hb => St.get_set_ne _ _ hb⟩
  · generalize R (d + 2) = r at e1 ⊢
    simp [e1, aExtract, lf, ll, st]
  · refine h.upd hk (St.wf_set h.wf hfl _) (by simp) (fun b _ hb _ => St.get_set_ne _ _ hb) (St.get_set_same _ _ _) (a2.keep fun c hc => St.get_set_ne _ _ ((h.ap k k f f hk hk).2 c hc).1) (Nat.le_refl _) a4 (.inr (.inl rfl))

theorem dcut_run (d : Nat) (h : Dk s i m room fs) {k : Nat} {f : Fl} (hk : fs[k]? = some f) (hm : May f.nm) {n : Nat} (hn : n ≤ f.l.length) :
    ∃ x' t, R (d + 3) 45 [Z (.ptr i 0), Z (.str f.nm), I .i64 n] s = some (I .i64 0, t) ∧ Dk t i m room (fs.set k { f with x := x', l := f.l.take n, sure := min f.sure n }) ∧ s.size ≤ t.size ∧ (∀ b, b ≠ f.fb → t.get b = s.get b) ∧ (own x' = none ∨ own x' = own f.x) := by
  rw [f45_run]
  unfold f45
  have e1 := dfind_run d h hk hm
  obtain ⟨a1, a2, a3, a4, a5, a6, a7⟩ := h.fl k f hk
  obtain ⟨x', pc, b1, b2⟩ := bs_cut a2 hn
  have lf : aLoad1 (Z (.ptr f.fb 0)) s.get = some (Z f.x) := aLoad1_of a1 rfl
  have lf1 : aLoad1 (Z (.ptr f.fb 1)) s.get = some (I .i64 f.sure) := aLoad1_of a1 rfl
  have ll := a2.rd.lens
  have hfl := h.wf.lt a1
  have c0 : ¬ (n : Int) < 0 := by omega
  have c1 : ¬ (f.l.length : Int) < (n : Int) := by omega
  have st : aStore 1 (Z (.ptr f.fb 0)) (Z x') s = some (tt, s.set f.fb (.cells true [x', .int .i64 f.sure])) := aStore1_of a1 (by simp)
  have st2 : aStore 1 (Z (.ptr f.fb 1)) (I .i64 (min (f.sure : Int) n)) (s.set f.fb (.cells true [x', .int .i64 f.sure])) = some (tt, (s.set f.fb (.cells true [x', .int .i64 f.sure])).set f.fb (.cells true [x', .int .i64 (min (f.sure : Int) n)])) := aStore1_of (St.get_set_same _ _ _) (by simp)
  have hF : ∀ b, b ≠ f.fb → ((s.set f.fb (.cells true [x', .int .i64 f.sure])).set f.fb (.cells true [x', .int .i64 (min (f.sure : Int) n)])).get b = s.get b := fun b hb => by rw [St.get_set_ne _ _ hb, St.get_set_ne _ _ hb]
  have hmin : (min (f.sure : Int) n) = ((min f.sure n : Nat) : Int) := by omega
  refine ⟨x', _, ?_, ?_, by simp, hF, b2⟩
  · generalize R (d + 2) = r at e1 ⊢
    simp [e1, aExtract, lf, lf1, ll, c0, c1, pc, st, st2]
  · refine h.upd hk (St.wf_set (St.wf_set h.wf hfl _) hfl _) (by simp) (fun b _ hb _ => hF b hb) (by rw [St.get_set_same, hmin]) (b1.keep fun c hc => hF c ?_) (by rw [List.length_take]; omega) (by rw [List.length_take]; omega) (by rcases b2 with e | e; exact .inl e; exact .inr (.inl e))
    rcases b2 with e | e
    · rw [e] at hc; cases hc
    · rw [e] at hc
      exact ((h.ap k k f f hk hk).2 c hc).1
end
end Go.Proofs.YtbohejffelipoaaGreatDoor


/-
  What the operations of a disk do, in any store: a new disk, reading, a crash of one file. No conditions but those named in each line.
-/
namespace Go.Proofs.YtbohejffelipoaaGreatDoor
open Go Go.Abs Go.Abs.F
set_option linter.unusedVariables false

section
variable {s t : St} {i m : Nat} {room : Int} {fs : List Fl}

theorem dnew_run (d : Nat) (wf : s.wf) (h0 : 0 ≤ room) (h1 : room ≤ 1048576) : ∃ t, R (d + 1) 10 [I .i64 room] s = some (Z (.ptr (s.size + 1) 0), t) ∧ Dk t (s.size + 1) s.size room [] ∧ Gr s t := by
  have c0 : ¬ room < 0 := by omega
  have c1 : ¬ 1048576 < room := by omega
  obtain ⟨t, ht⟩ : ∃ t, t = (s.push (.map [])).push (.cells true [.int .i64 room, .map s.size]) := ⟨_, rfl⟩
  have f : t.wf := by rw [ht]; exact St.wf_push (St.wf_push wf _) _
  refine ⟨t, ?_, ⟨f, ?_, ?_, fun k f hf => by simp at hf, fun k k' f f' hf => by simp at hf, List.nodup_nil⟩, f, by rw [ht]; simp; omega, fun b hb => by rw [ht, St.get_push_ne _ _ (by rw [St.size_push]; omega), St.get_push_ne _ _ (by omega)]⟩
  · rw [f10_run]
    unfold f10
    simp [c0, c1, aNew, nMap, nBox, aFill, V.cells, setRange, asAggT, ht]
  · have := St.get_push_same (s.push (.map [])) (.cells true [.int .i64 room, .map s.size])
    rwa [St.size_push, ← ht] at this
  · rw [ht, St.get_push_ne _ _ (by rw [St.size_push]; omega), St.get_push_same]
    rfl

theorem bclone_run (d : Nat) (wf : s.wf) {x : S} {l : List S} (hb : BS s x l) (hl : l.length ≤ 50000) : ∃ y t, R (d + 1) 92 [Z x] s = some (Z y, t) ∧ Gr s t ∧ RdL t y l ∧ ∀ c, own y = some c → s.size ≤ c ∧ c < t.size := by
  rw [f92_run]
  unfold f92
  have go : eqB .l (Z x) (Z .nils) = some (B false) → ∃ y t, (bd (eqB .l (Z x) (Z .nils)) fun t4 => br t4 (some ((Z .nils), s)) (bd2 (aNew s (nSlice 0 (aFill [] []))) fun t5 s1 => bd2 (aAppend 1 1 t5 (Z x) s1) fun t7 s2 => some (t7, s2))) = some (Z y, t) ∧ Gr s t ∧ RdL t y l ∧ ∀ c, own y = some c → s.size ≤ c ∧ c < t.size := by
    intro e
    have L := Fr.lit 1 wf (n := 0) (vs := []) rfl
    have nw : aNew s (nSlice 0 (aFill [] [])) = some (Z (.sl s.size 0 0 (.known 0)), s.push (.cells true [])) := by simp [aNew, nSlice, aFill]
    obtain ⟨y, t, ap, F, _, _⟩ := L.append (by_ := 1) (by omega) ((hb.keep (t := s.push (.cells true [])) fun c hc => L.gr.2.2 c (hb.lt wf hc)).rd.src) (by simp) (by omega)
    refine ⟨y, t, ?_, F.gr, by simpa using F.rd, F.new⟩
    simp [e, nw, ap]
  rcases hb with ⟨rfl, rfl⟩ | ⟨c, rows, rfl, rfl, h1⟩ | ⟨c, rows, rfl, h1, h2, h3⟩
  · have e : eqB .l (Z .nils) (Z .nils) = some (B true) := rfl
    exact ⟨.nils, s, by simp [e], Gr.refl wf, Rd.nil 1 s, fun c hc => by cases hc⟩
  · exact go rfl
  · exact go rfl

theorem dread_run (d : Nat) (h : Dk s i m room fs) {k : Nat} {f : Fl} (hk : fs[k]? = some f) (hm : May f.nm) :
    ∃ y t, R (d + 3) 42 [Z (.ptr i 0), Z (.str f.nm)] s = some (.tup [.s y, .s (.int .i64 0)], t) ∧ Gr s t ∧ RdL t y f.l ∧ ∀ c, own y = some c → s.size ≤ c ∧ c < t.size := by
  rw [f42_run]
  unfold f42
  have e1 := dfind_run d h hk hm
  obtain ⟨a1, a2, a3, a4, _⟩ := h.fl k f hk
  have lf : aLoad1 (Z (.ptr f.fb 0)) s.get = some (Z f.x) := aLoad1_of a1 rfl
  obtain ⟨y, t, e2, g, hr, ho⟩ := bclone_run (d + 1) h.wf a2 a4
  refine ⟨y, t, ?_, g, hr, ho⟩
  have e2' : R (d + 2) 92 [Z f.x] s = some (Z y, t) := e2
  generalize R (d + 2) = r at e1 e2' ⊢
  simp [e1, aExtract, lf, e2', retT, allV]

theorem dread_none (d : Nat) (h : Dk s i m room fs) {nm : List UInt8} (hno : ∀ g ∈ fs, g.nm ≠ nm) (hm : May nm) : R (d + 3) 42 [Z (.ptr i 0), Z (.str nm)] s = some (.tup [.s .nils, .s (.int .i64 9)], s) := by
  rw [f42_run]
  unfold f42
  have e1 := dfind_none d h hno hm
  generalize R (d + 2) = r at e1 ⊢
  simp [e1, aExtract, retT, allV]

def Keeps (s : St) (y : S) (f : Fl) (n : Nat) : Prop :=
  (n = 0 ∧ aLenSl (Z y) = some (I .i64 0)) ∨ ∃ c q, aLenSl (Z y) = some (I .i64 1) ∧ aIndexSl 1 (Z y) (I .i64 0) = some (Z (.ptr c 0)) ∧ c < s.size ∧ aLoad1 (Z (.ptr c 0)) s.get = some (I .i64 q) ∧ (n : Int) = min (max q 0) ((f.l.length : Int) - f.sure)

theorem dcrash_run (d : Nat) {f : Fl} (h : Dk s i m room [f]) (hnm : f.nm.length ≤ 1000) {y : S} {n : Nat} (hy : Keeps s y f n) (hn : f.sure + n ≤ f.l.length) :
    ∃ x' t, R (d + 2) 25 [Z (.ptr i 0), Z y] s = some (.tup [], t) ∧ Dk t i m room [{ f with x := x', l := f.l.take (f.sure + n), sure := f.sure + n }] ∧ s.size ≤ t.size ∧ (∀ b, b < s.size → b ≠ f.fb → t.get b = s.get b) ∧ (own x' = none ∨ own x' = own f.x) := by
  rw [f25_run]
  unfold f25
  rcases dnames_run d h (by simpa using hnm) (by simp) with ⟨e, _⟩ | ⟨_, e1⟩
  · cases e
  obtain ⟨s1, hs1⟩ : ∃ s1, s1 = s.push (.cells false [S.str f.nm]) := ⟨_, rfl⟩
  have e1' : R (d + 1) 29 [Z (.ptr i 0)] s = some (Z (.sl s.size 0 1 (.grown 1)), s1) := by rw [hs1]; exact e1
  have g : Gr s s1 := by rw [hs1]; exact Gr.push h.wf _
  have h1 := h.gr g
  have hblk : s1.get s.size = some (.cells false [S.str f.nm]) := by rw [hs1]; exact St.get_push_same _ _
  obtain ⟨a1, a2, a3, a4, a5, a6, a7⟩ := h1.fl 0 f rfl
  obtain ⟨x', pc, b1, b2⟩ := bs_cut a2 (k := f.sure + n) hn
  have ix : aIndexSl 1 (Z (.sl s.size 0 1 (.grown 1))) (I .i64 0) = some (Z (.ptr s.size 0)) := aIndexSl_int (j := 0) rfl (by omega)
  have ld : aLoad1 (Z (.ptr s.size 0)) s1.get = some (Z (.str f.nm)) := aLoad1_of hblk rfl
  have l1 := h1.ld1
  have lk := h1.look (k := 0) (f := f) rfl
  have lf : aLoad1 (Z (.ptr f.fb 0)) s1.get = some (Z f.x) := aLoad1_of a1 rfl
  have lf1 : aLoad1 (Z (.ptr f.fb 1)) s1.get = some (I .i64 f.sure) := aLoad1_of a1 rfl
  have ll := a2.rd.lens
  have ll' := b1.rd.lens
  have hfl := h1.wf.lt a1
  have hlt : (f.l.take (f.sure + n)).length = f.sure + n := by rw [List.length_take]; omega
  rw [hlt] at ll'
  have w1 : IntKind.i64.wrap ((f.sure : Int) + n) = (f.sure : Int) + n := wrap_in _ (by omega) (by omega)
  have hcast : ((f.sure + n : Nat) : Int) = (f.sure : Int) + n := by omega
  rw [hcast] at pc ll'
  have w2 : IntKind.i64.wrap ((f.l.length : Int) - f.sure) = (f.l.length : Int) - f.sure := wrap_in _ (by omega) (by omega)
  have w3 : IntKind.i64.wrap 1 = 1 := rfl
  obtain ⟨s2, hs2⟩ : ∃ s2, s2 = s1.set f.fb (.cells true [x', .int .i64 f.sure]) := ⟨_, rfl⟩
  have st : aStore 1 (Z (.ptr f.fb 0)) (Z x') s1 = some (tt, s2) := by rw [hs2]; exact aStore1_of a1 (by simp)
  have g2 : s2.get f.fb = some (.cells true [x', .int .i64 f.sure]) := by rw [hs2]; exact St.get_set_same _ _ _
  have lf2 : aLoad1 (Z (.ptr f.fb 0)) s2.get = some (Z x') := aLoad1_of g2 rfl
  obtain ⟨s3, hs3⟩ : ∃ s3, s3 = s2.set f.fb (.cells true [x', .int .i64 ((f.sure : Int) + n)]) := ⟨_, rfl⟩
  have st2 : aStore 1 (Z (.ptr f.fb 1)) (I .i64 ((f.sure : Int) + n)) s2 = some (tt, s3) := by rw [hs3]; exact aStore1_of g2 (by simp)
  have hF : ∀ b, b ≠ f.fb → s3.get b = s1.get b := fun b hb => by rw [hs3, hs2, St.get_set_ne _ _ hb, St.get_set_ne _ _ hb]
  have z3 : s3.size = s1.size := by rw [hs3, hs2]; rfl
  refine ⟨x', s3, ?_, ?_, by have := g.2.1; omega, fun b hb hb1 => by rw [hF b hb1]; exact g.2.2 b hb, b2⟩
  · generalize R (d + 1) = r at e1' ⊢
    have step1 : f25_l1 r 8192 [Z (.ptr i 0), Z y, Z (.sl s.size 0 1 (.grown 1)), I .i64 1, I .i64 0] s1 = some (.normal [Z (.ptr i 0), Z y, Z (.sl s.size 0 1 (.grown 1)), I .i64 1, I .i64 1], s3) := by
      unfold f25_l1
      rcases hy with ⟨rfl, hy0⟩ | ⟨c, q, hy0, hy1, hyc, hy2, hy3⟩
      · rw [show ((0 : Nat) : Int) = 0 from rfl, Int.add_zero] at w1 pc ll' st2
        simp [ix, ld, l1, lk, hy0, lf, lf1, w1, pc, st, lf2, ll', st2, w3]
      · have hy2' : aLoad1 (Z (.ptr c 0)) s1.get = some (I .i64 q) := by
          have := g.2.2 c hyc
          simp only [aLoad1] at hy2 ⊢
          rw [this]
          exact hy2
        rw [hy3] at w1 pc ll' st2
        simp [ix, ld, l1, lk, hy0, hy1, hy2', lf, lf1, ll, w2, w1, pc, st, lf2, ll', st2, w3]
    have step2 : f25_l1 r 8192 [Z (.ptr i 0), Z y, Z (.sl s.size 0 1 (.grown 1)), I .i64 1, I .i64 1] s3 = some (.exit 0 [], s3) := by
      unfold f25_l1
      simp
    have lp : loops (f25_l1 r 8192) 8192 [Z (.ptr i 0), Z y, Z (.sl s.size 0 1 (.grown 1)), I .i64 1, I .i64 0] s1 = some (.exit 0 [], s3) := by
      rw [show (8192 : Nat) = 8191 + 1 from rfl, loops, step1]
      dsimp only
      rw [show (8191 : Nat) = 8190 + 1 from rfl, loops, step2]
    simp [e1', lp, retT, allV]
  · have hu := h1.upd (t := s3) (k := 0) (f := f) rfl (x' := x') (l' := f.l.take (f.sure + n)) (sure' := f.sure + n) (by rw [hs3]; exact St.wf_set (by rw [hs2]; exact St.wf_set h1.wf hfl _) (by rw [hs2]; exact hfl) _) (by omega) (fun b _ hb _ => hF b hb) (by rw [hs3, hcast]; exact St.get_set_same _ _ _)
      (b1.keep fun c hc => hF c (by
        rcases b2 with e | e
        · rw [e] at hc; cases hc
        · rw [e] at hc
          exact ((h1.ap 0 0 f f rfl rfl).2 c hc).1)) (by omega) (by omega) (by rcases b2 with e | e; exact .inl e; exact .inr (.inl e))
    exact hu
end
end Go.Proofs.YtbohejffelipoaaGreatDoor


/-
  What a store holds in a store of blocks: whose each block is (a role), and that what touches other roles leaves it. No conditions but those named in each line.
-/
namespace Go.Proofs.YtbohejffelipoaaGreatDoor
open Go Go.Abs Go.Abs.F
set_option linter.unusedVariables false

structure SBk where
  p : Nat
  i : Nat
  m : Nat
  b : Nat
  mp : Nat
  lx : S
  ex : S
  qx : S

structure Roles (ρ : Nat → Nat) (B : SBk) (fs : List Fl) : Prop where
  p : ρ B.p = 1
  b : ρ B.b = 2
  mp : ρ B.mp = 3
  lx : ∀ c, own B.lx = some c → ρ c = 4
  ex : ∀ c, own B.ex = some c → ρ c = 5
  qx : ∀ c, own B.qx = some c → ρ c = 6
  i : ρ B.i = 0
  m : ρ B.m = 0
  fb : ∀ f ∈ fs, ρ f.fb = 0
  fx : ∀ f ∈ fs, ∀ c, own f.x = some c → ρ c = 0

structure HasSt (ρ : Nat → Nat) (s : St) (B : SBk) (room : Int) (fs : List Fl) (l : List Ent) (q : FoS) (sure : Nat) : Prop where
  dk : Dk s B.i B.m room fs
  st : s.get B.p = some (.cells true [.ptr B.i 0, B.lx, B.ex, .ptr B.b 0, .int .i64 sure])
  le : Ow 8 s B.lx l.length (cells cE l)
  en : Ow 1 s B.ex l.length ((endsL l).map (S.int .i64))
  hf : HG (fun c => c ≠ B.b ∧ c ≠ B.mp ∧ own B.qx ≠ some c) s s B.b q B.qx B.mp
  ro : Roles ρ B fs
  fo : foldGo fs0 l = (0, q)
  wf : ∀ e ∈ l, EWf e
  few : l.length ≤ 2000
  su : sure ≤ l.length

section
variable {ρ ρ' : Nat → Nat} {s t : St} {B : SBk} {room : Int} {fs : List Fl} {l : List Ent} {q : FoS} {sure : Nat} {i m : Nat}

theorem Dk.keepR (h : Dk s i m room fs) (wf : t.wf) (hz : s.size ≤ t.size) (hi : t.get i = s.get i) (hm : t.get m = s.get m) (hf : ∀ f ∈ fs, t.get f.fb = s.get f.fb ∧ ∀ c, own f.x = some c → t.get c = s.get c) : Dk t i m room fs := by
  refine ⟨wf, by rw [hi]; exact h.ri, by rw [hm]; exact h.mp, fun k f hk => ?_, h.ap, h.nm⟩
  obtain ⟨a1, a2, a3⟩ := h.fl k f hk
  obtain ⟨b1, b2⟩ := hf f (List.mem_of_getElem? hk)
  exact ⟨by rw [b1]; exact a1, a2.keep b2, a3⟩

theorem Dk.lts (h : Dk s i m room fs) : i < s.size ∧ m < s.size ∧ ∀ f ∈ fs, f.fb < s.size ∧ ∀ c, own f.x = some c → c < s.size := by
  refine ⟨h.wf.lt h.ri, h.wf.lt h.mp, fun f hf => ?_⟩
  obtain ⟨k, hk⟩ := List.getElem?_of_mem hf
  obtain ⟨a1, a2, _⟩ := h.fl k f hk
  exact ⟨h.wf.lt a1, fun c hc => a2.lt h.wf hc⟩

theorem HG.keepR {K K' : Nat → Prop} {s0 : St} {b mp : Nat} {x : S} (h : HG K s0 s b q x mp) (wf : t.wf) (hb : t.get b = s.get b) (hm : t.get mp = s.get mp) (hx : ∀ c, own x = some c → t.get c = s.get c) :
    HG (fun c => c ≠ b ∧ c ≠ mp ∧ own x ≠ some c) t t b q x mp :=
  ⟨⟨wf, Nat.le_refl _, fun _ _ _ => rfl⟩, fun _ k => k.1 rfl, fun _ k => k.2.1 rfl, by rw [hb]; exact h.st, by rw [hm]; exact h.mpE, h.ins.keep hx, fun c hc => ⟨fun _ k => k.2.2 hc, (h.ow c hc).2⟩⟩

theorem HasSt.swf (h : HasSt ρ s B room fs l q sure) : s.wf := h.dk.wf

theorem HasSt.lts (h : HasSt ρ s B room fs l q sure) : B.p < s.size ∧ B.b < s.size ∧ B.mp < s.size ∧ (∀ c, own B.lx = some c → c < s.size) ∧ (∀ c, own B.ex = some c → c < s.size) ∧ (∀ c, own B.qx = some c → c < s.size) :=
  ⟨h.swf.lt h.st, h.swf.lt h.hf.st, h.swf.lt h.hf.mpE, fun c hc => h.le.lt h.swf hc, fun c hc => h.en.lt h.swf hc, fun c hc => h.hf.ins.lt h.swf hc⟩

theorem HasSt.keep (h : HasSt ρ s B room fs l q sure) (wf : t.wf) (hz : s.size ≤ t.size) (hk : ∀ c, c < s.size → ρ c < 7 → t.get c = s.get c) : HasSt ρ t B room fs l q sure := by
  obtain ⟨p1, p2, p3, p4, p5, p6⟩ := h.lts
  obtain ⟨d1, d2, d3⟩ := h.dk.lts
  have r := h.ro
  have k := fun c hc (n : Nat) (e : ρ c = n) (hn : n < 7) => hk c hc (by omega)
  exact ⟨h.dk.keepR wf hz (k _ d1 0 r.i (by omega)) (k _ d2 0 r.m (by omega)) (fun f hf => ⟨k _ (d3 f hf).1 0 (r.fb f hf) (by omega), fun c hc => k _ ((d3 f hf).2 c hc) 0 (r.fx f hf c hc) (by omega)⟩),
    by rw [k _ p1 1 r.p (by omega)]; exact h.st, h.le.keep fun c hc => k _ (p4 c hc) 4 (r.lx c hc) (by omega), h.en.keep fun c hc => k _ (p5 c hc) 5 (r.ex c hc) (by omega),
    h.hf.keepR (K' := fun _ => True) wf (k _ p2 2 r.b (by omega)) (k _ p3 3 r.mp (by omega)) (fun c hc => k _ (p6 c hc) 6 (r.qx c hc) (by omega)), r, h.fo, h.wf, h.few, h.su⟩

theorem HasSt.gr (h : HasSt ρ s B room fs l q sure) (g : Gr s t) : HasSt ρ t B room fs l q sure := h.keep g.1 g.2.1 fun c hc _ => g.2.2 c hc

theorem HasSt.rho (h : HasSt ρ s B room fs l q sure) (hρ : ∀ c, c < s.size → ρ' c = ρ c) : HasSt ρ' s B room fs l q sure := by
  obtain ⟨p1, p2, p3, p4, p5, p6⟩ := h.lts
  obtain ⟨d1, d2, d3⟩ := h.dk.lts
  have r := h.ro
  exact ⟨h.dk, h.st, h.le, h.en, h.hf, ⟨by rw [hρ _ p1]; exact r.p, by rw [hρ _ p2]; exact r.b, by rw [hρ _ p3]; exact r.mp, fun c hc => by rw [hρ _ (p4 c hc)]; exact r.lx c hc, fun c hc => by rw [hρ _ (p5 c hc)]; exact r.ex c hc,
    fun c hc => by rw [hρ _ (p6 c hc)]; exact r.qx c hc, by rw [hρ _ d1]; exact r.i, by rw [hρ _ d2]; exact r.m, fun f hf => by rw [hρ _ (d3 f hf).1]; exact r.fb f hf, fun f hf c hc => by rw [hρ _ ((d3 f hf).2 c hc)]; exact r.fx f hf c hc⟩, h.fo, h.wf, h.few, h.su⟩
end
end Go.Proofs.YtbohejffelipoaaGreatDoor


/-
  A store notes an entry. No conditions but those named in each line.
-/
namespace Go.Proofs.YtbohejffelipoaaGreatDoor
open Go Go.Abs Go.Abs.F
set_option linter.unusedVariables false
section
variable {ρ ρ' : Nat → Nat} {s t : St} {D : SBk} {room : Int} {fs : List Fl} {l : List Ent} {q : FoS} {sure : Nat} {i m : Nat} {e : Ent}

theorem ov_at {g g' : Mem} {P i j : Nat} {x : S} {vs : List S} {l : List (Nat × Nat × Blk)} (h : g i = some (.cells true vs)) (h' : g' i = some (.cells true vs)) (hx : vs[j]? = some x) (hl : ∀ q k b, (q, k, b) ∈ l → k ≠ i) :
    aLoad1 (Z (.ptr i j)) (overlay P g l) = aLoad1 (Z (.ptr i j)) g' := by
  have e : overlay P g l i = g i := overlay_miss P g i l fun q k b hm _ => hl q k b hm
  rw [aLoad1_of (e.trans h) hx, aLoad1_of h' hx]

theorem ovO_mem {k n : Nat} {x : New} {r : List (Nat × Nat × Blk)} {q j : Nat} {b : Blk} (h : (q, j, b) ∈ ovO k n x r) : j = n ∨ (q, j, b) ∈ r := by
  unfold ovO at h
  split at h
  · rcases List.mem_cons.1 h with h | h
    · cases h; exact .inl rfl
    · exact .inr h
  · exact .inr h

abbrev cSt (i b : Nat) (lx ex : S) (sure : Nat) : List S := [.ptr i 0, lx, ex, .ptr b 0, .int .i64 sure]

theorem place_run (d : Nat) {p b : Nat} {lx ex : S} (hp : s.get p = some (.cells true (cSt i b lx ex sure))) (he : Rd 1 s ex l.length ((endsL l).map (S.int .i64))) {n : Nat} (hn : n ≤ l.length) (hl : l.length ≤ 3000) :
    R (d + 1) 46 [Z (.ptr p 0), I .i64 n] s = some (I .i64 (placeL l n : Nat), s) := by
  rw [f46_run]
  unfold f46
  cases n with
  | zero => simp [placeL_zero]
  | succ n =>
    have l2 : aLoad1 (Z (.ptr p 2)) s.get = some (Z ex) := aLoad1_of hp rfl
    have w1 : IntKind.i64.wrap (((n + 1 : Nat) : Int) - 1) = (n : Int) := by rw [wrap_in _ (by omega) (by omega)]; omega
    obtain ⟨P, ix, ld⟩ := he.at1 (i := (n : Int)) (j := n) (v := .int .i64 (placeL l (n + 1) : Nat)) rfl (by rw [List.getElem?_map, endsL_get (by omega)]; rfl)
    have c0 : ¬ ((n + 1 : Nat) : Int) = 0 := by omega
    generalize ((n + 1 : Nat) : Int) = N1 at *
    generalize ((placeL l (n + 1) : Nat) : Int) = PL at *
    generalize (n : Int) = NN at *
    simp [c0, l2, w1, ix, ld]

theorem HasSt.ok (h : HasSt ρ s D room fs l q sure) : l.all mayE = true ∧ FOk q ∧ q.ever.length ≤ 2000 := by
  obtain ⟨h1, h2, h3⟩ := foldGo_ok h.fo fs0_ok
  have := h.few
  exact ⟨h1, h2, by simp [fs0] at h3; omega⟩

set_option maxHeartbeats 1000000 in
theorem note_run (d : Nat) (h : HasSt ρ s D room fs l q sure) (he : asksP q e = 0) (hw : EWf e) (hl : l.length < 2000) :
    ∃ ρ' D' t, R (d + 11) 44 [Z (.ptr D.p 0), AE e] s = some (B true, t) ∧ HasSt ρ' t D' room fs (l ++ [e]) (nextP q e) sure ∧ s.size ≤ t.size ∧ (D'.p = D.p ∧ D'.i = D.i ∧ D'.m = D.m) ∧
      (∀ c, c < s.size → ρ' c = ρ c) ∧ ∀ c, c < s.size → (ρ c = 0 ∨ 7 ≤ ρ c) → t.get c = s.get c := by
  obtain ⟨p1, p2, p3, p4, p5, p6⟩ := h.lts
  obtain ⟨hall, hok, hev⟩ := h.ok
  have r := h.ro
  have hm := asks_may he
  obtain ⟨s1, hs1⟩ : ∃ s1, s1 = s.push (.cells true (cE e)) := ⟨_, rfl⟩
  have nw1 : aNew s (nBox (AE e)) = some (Z (.ptr s.size 0), s1) := by rw [hs1]; rfl
  have g1 : Gr s s1 := by rw [hs1]; exact Gr.push h.swf _
  have b1 : s1.get s.size = some (.cells true (cE e)) := by rw [hs1]; exact St.get_push_same _ _
  have l1 := load8 (g := s1.get) b1
  have z1 : s1.size = s.size + 1 := by rw [hs1]; simp
  obtain ⟨y, s2, e2, g2, f2⟩ := frame_run d g1.wf e hw
  have hfr : frameE e = some (wrapB (putB e)) := by unfold frameE; rw [if_pos hm]
  have fb := f2 _ hfr
  rw [hfr] at e2
  have ly := fb.rd.lens
  have b2 := g2.get b1 g1.wf
  have l2 := load8 (g := s2.get) b2
  have g02 := g1.trans g2
  have h2 := h.gr g02
  have z2 := g2.2.1
  have q3 : aLoad1 (Z (.ptr D.p 3)) s2.get = some (Z (.ptr D.b 0)) := aLoad1_of h2.st rfl
  obtain ⟨s3, y3, e3, H3⟩ := next_run' d h2.hf hok (by omega) e
  rw [he] at e3 H3
  rw [if_pos rfl] at H3
  have k3 := H3.gr.2.2
  have z3 := H3.gr.2.1
  have kp : ∀ c, c < s2.size → c ≠ D.b → c ≠ D.mp → own D.qx ≠ some c → s3.get c = s2.get c := fun c hc a1 a2 a3 => k3 c hc ⟨a1, a2, a3⟩
  have kr : ∀ c, c < s.size → ρ c ≠ 2 → ρ c ≠ 3 → ρ c ≠ 6 → s3.get c = s.get c := fun c hc a1 a2 a3 => by
    rw [kp c (by omega) (fun e => a1 (by rw [e]; exact r.b)) (fun e => a2 (by rw [e]; exact r.mp)) (fun e => a3 (r.qx c e)), g02.2.2 c hc]
  have st3 : s3.get D.p = some (.cells true (cSt D.i D.b D.lx D.ex sure)) := by rw [kr _ p1 (by rw [r.p]; decide) (by rw [r.p]; decide) (by rw [r.p]; decide)]; exact h.st
  have le3 : Ow 8 s3 D.lx l.length (cells cE l) := h.le.keep fun c hc => kr c (p4 c hc) (by rw [r.lx c hc]; decide) (by rw [r.lx c hc]; decide) (by rw [r.lx c hc]; decide)
  have en3 : Ow 1 s3 D.ex l.length ((endsL l).map (S.int .i64)) := h.en.keep fun c hc => kr c (p5 c hc) (by rw [r.ex c hc]; decide) (by rw [r.ex c hc]; decide) (by rw [r.ex c hc]; decide)
  have b3 : s3.get s.size = some (.cells true (cE e)) := by
    rw [kp _ (by omega) (by omega) (by omega) (fun hc => by have := p6 _ hc; omega)]
    exact b2
  have q2 : aLoad1 (Z (.ptr D.p 2)) s3.get = some (Z D.ex) := aLoad1_of st3 rfl
  have q1 : aLoad1 (Z (.ptr D.p 1)) s3.get = some (Z D.lx) := aLoad1_of st3 rfl
  have ll := le3.rd.lens
  have e4 := place_run (d + 9) (l := l) st3 en3.rd (Nat.le_refl _) (by omega)
  rw [placeL_all] at e4
  have hfl := framesB_len l hall
  have hwl := frameE_len hfr
  obtain ⟨E1, hE1⟩ : ∃ E1 : Int, E1 = (((framesB l).length + (wrapB (putB e)).length : Nat) : Int) := ⟨_, rfl⟩
  have w1 : IntKind.i64.wrap (((framesB l).length : Int) + ((wrapB (putB e)).length : Int)) = E1 := by rw [hE1, wrap_in _ (by omega) (by omega)]; omega
  have L5 := Fr.lit 1 H3.gr.wf (n := 1) (vs := [.int .i64 E1]) rfl
  obtain ⟨s5, hs5⟩ : ∃ s5, s5 = s3.push (.cells true [.int .i64 E1]) := ⟨_, rfl⟩
  rw [← hs5] at L5
  have nw5 : aNew s3 (nSlice 1 (aFill [.int .i64 0] [(0, 1, I .i64 E1)])) = some (Z (.sl s3.size 0 1 (.known 1)), s5) := by rw [hs5]; simp [aNew, nSlice, aFill, V.cells, setRange]
  have z5 : s5.size = s3.size + 1 := by rw [hs5]; simp
  obtain ⟨ex', s6, ap6, wf6, z6, en6, old6, new6⟩ := (en3.gr H3.gr.wf L5.gr).append (by_ := 8) L5.gr.wf (by omega) L5.rd.src rfl (by omega)
  have pex : own D.ex ≠ some D.p := fun hc => by have := r.ex _ hc; rw [r.p] at this; cases this
  have plx : own D.lx ≠ some D.p := fun hc => by have := r.lx _ hc; rw [r.p] at this; cases this
  have k6 : ∀ c, c < s3.size → own D.ex ≠ some c → s6.get c = s3.get c := fun c hc hx => by rw [old6 c (by omega) hx, L5.gr.2.2 c hc]
  have st6 : s6.get D.p = some (.cells true (cSt D.i D.b D.lx D.ex sure)) := by rw [k6 _ (by omega) pex]; exact st3
  obtain ⟨s7, hs7⟩ : ∃ s7, s7 = s6.set D.p (.cells true (cSt D.i D.b D.lx ex' sure)) := ⟨_, rfl⟩
  have st7 : aStore 1 (Z (.ptr D.p 2)) (Z ex') s6 = some (tt, s7) := by rw [hs7]; exact aStore1_of st6 (by simp)
  have k7 : ∀ c, c ≠ D.p → s7.get c = s6.get c := fun c hc => by rw [hs7, St.get_set_ne _ _ hc]
  have z7 : s7.size = s6.size := by rw [hs7]; simp
  have wf7 : s7.wf := by rw [hs7]; exact St.wf_set wf6 (by omega) _
  have p7 : s7.get D.p = some (.cells true (cSt D.i D.b D.lx ex' sure)) := by rw [hs7, St.get_set_same]
  have ck1 : aLoad1 (Z (.ptr D.p 2)) (overlay 12 s3.get (ovO 15 s3.size (nSlice 1 (aFill [.int .i64 0] [(0, 1, I .i64 E1)])) [])) = aLoad1 (Z (.ptr D.p 2)) s3.get :=
    ov_at st3 st3 rfl fun q j b hm => by
      rcases ovO_mem hm with rfl | hm
      · omega
      · cases hm
  have q17 : aLoad1 (Z (.ptr D.p 1)) s7.get = some (Z D.lx) := aLoad1_of p7 rfl
  have exs : own D.ex ≠ some s.size := fun hc => by have := p5 _ hc; omega
  have lxs : own D.lx ≠ some s.size := fun hc => by have := p4 _ hc; omega
  have b7 : s7.get s.size = some (.cells true (cE e)) := by rw [k7 _ (by omega), k6 _ (by omega) exs]; exact b3
  have l7 := load8 (g := s7.get) b7
  have exl : ∀ c, own D.lx = some c → own D.ex ≠ some c := fun c hc hx => by have a := r.lx c hc; rw [r.ex c hx] at a; cases a
  have le7 : Ow 8 s7 D.lx l.length (cells cE l) := le3.keep fun c hc => by rw [k7 c (fun e => plx (e ▸ hc)), k6 c (by have := p4 c hc; omega) (exl c hc)]
  have L8 := Fr.lit 8 wf7 (n := 1) (vs := cE e) rfl
  obtain ⟨s8, hs8⟩ : ∃ s8, s8 = s7.push (.cells true (cE e)) := ⟨_, rfl⟩
  rw [← hs8] at L8
  have nw8 : aNew s7 (nSlice 1 (aFill [.int .i64 0, .int .i64 0, .int .i64 0, .int .i64 0, .int .i64 0, .int .i64 0, .int .u32 0, .str []] [(0, 8, AE e)])) = some (Z (.sl s7.size 0 1 (.known 1)), s8) := by rw [hs8]; rfl
  have z8 : s8.size = s7.size + 1 := by rw [hs8]; simp
  obtain ⟨lx', s9, ap9, wf9, z9, le9, old9, new9⟩ := (le7.gr wf7 L8.gr).append (by_ := 72) L8.gr.wf (by omega) L8.rd.src rfl (by omega)
  have k9 : ∀ c, c < s7.size → own D.lx ≠ some c → s9.get c = s7.get c := fun c hc hx => by rw [old9 c (by omega) hx, L8.gr.2.2 c hc]
  have st9 : s9.get D.p = some (.cells true (cSt D.i D.b D.lx ex' sure)) := by rw [k9 _ (by omega) plx]; exact p7
  obtain ⟨s10, hs10⟩ : ∃ s10, s10 = s9.set D.p (.cells true (cSt D.i D.b lx' ex' sure)) := ⟨_, rfl⟩
  have st10 : aStore 1 (Z (.ptr D.p 1)) (Z lx') s9 = some (tt, s10) := by rw [hs10]; exact aStore1_of st9 (by simp)
  have k10 : ∀ c, c ≠ D.p → s10.get c = s9.get c := fun c hc => by rw [hs10, St.get_set_ne _ _ hc]
  have z10 : s10.size = s9.size := by rw [hs10]; simp
  have wf10 : s10.wf := by rw [hs10]; exact St.wf_set wf9 (by omega) _
  have p10 : s10.get D.p = some (.cells true (cSt D.i D.b lx' ex' sure)) := by rw [hs10, St.get_set_same]
  have kk : ∀ c, c < s3.size → c ≠ D.p → own D.ex ≠ some c → own D.lx ≠ some c → s10.get c = s3.get c := fun c hc a1 a2 a3 => by
    rw [k10 c a1, k9 c (by omega) a3, k7 c a1, k6 c hc a2]
  have oex : ∀ c, own ex' = some c → own D.ex = some c ∨ s5.size ≤ c := fun c hc => by
    rcases new6 with e | e | ⟨c', e, hc'⟩
    · rw [e] at hc; cases hc
    · rw [e] at hc; exact .inl hc
    · rw [e] at hc; cases hc; exact .inr hc'
  have olx : ∀ c, own lx' = some c → own D.lx = some c ∨ s8.size ≤ c := fun c hc => by
    rcases new9 with e | e | ⟨c', e, hc'⟩
    · rw [e] at hc; cases hc
    · rw [e] at hc; exact .inl hc
    · rw [e] at hc; cases hc; exact .inr hc'
  have oq : ∀ c, own y3 = some c → own D.qx = some c ∨ s2.size ≤ c := fun c hc => by
    obtain ⟨a1, a2, a3⟩ := H3.ow c hc
    by_cases hlt : c < s2.size
    · left
      by_cases hx : own D.qx = some c
      · exact hx
      · exact absurd ⟨a2, a3, hx⟩ (a1 hlt)
    · exact .inr (by omega)
  obtain ⟨ρ', hρ⟩ : ∃ ρ' : Nat → Nat, ρ' = fun c => if c < s.size then ρ c else if c < s2.size then 9 else if c < s3.size then 6 else if c < s7.size then 5 else 4 := ⟨_, rfl⟩
  have hρ0 : ∀ c, c < s.size → ρ' c = ρ c := fun c hc => by rw [hρ]; exact if_pos hc
  have hρ6 : ∀ c, s2.size ≤ c → c < s3.size → ρ' c = 6 := fun c a b => by rw [hρ]; dsimp only; rw [if_neg (by omega), if_neg (by omega), if_pos b]
  have hρ5 : ∀ c, s3.size ≤ c → c < s7.size → ρ' c = 5 := fun c a b => by rw [hρ]; dsimp only; rw [if_neg (by omega), if_neg (by omega), if_neg (by omega), if_pos b]
  have hρ4 : ∀ c, s7.size ≤ c → ρ' c = 4 := fun c a => by rw [hρ]; dsimp only; rw [if_neg (by omega), if_neg (by omega), if_neg (by omega), if_neg (by omega)]
  obtain ⟨d1, d2, d3⟩ := h.dk.lts
  have kd : ∀ c, c < s.size → (ρ c = 0 ∨ 7 ≤ ρ c) → s10.get c = s.get c := fun c hc hr => by
    rw [kk c (by omega) (fun e => by rw [e, r.p] at hr; omega) (fun e => by have := r.ex c e; omega) (fun e => by have := r.lx c e; omega), kr c hc (by omega) (by omega) (by omega)]
  have ri := r.i
  have rm := r.m
  have qlt : ∀ c, own y3 = some c → c < s3.size := fun c hc => H3.ins.lt H3.gr.wf hc
  have xlt : ∀ c, own ex' = some c → c < s6.size := fun c hc => en6.lt wf6 hc
  have qne : ∀ c, own y3 = some c → c ≠ D.p ∧ own D.ex ≠ some c ∧ own D.lx ≠ some c := fun c hc => by
    rcases oq c hc with e | e
    · have := r.qx c e
      exact ⟨(fun e' => by rw [e', r.p] at this; cases this), (fun e' => by rw [r.ex c e'] at this; cases this), (fun e' => by rw [r.lx c e'] at this; cases this)⟩
    · exact ⟨by omega, fun e' => by have := p5 c e'; omega, fun e' => by have := p4 c e'; omega⟩
  refine ⟨ρ', { D with lx := lx', ex := ex', qx := y3 }, s10, ?_, ⟨?_, p10, ?_, ?_, ?_, ⟨?_, ?_, ?_, ?_, ?_, ?_, ?_, ?_, ?_, ?_⟩, foldGo_snoc h.fo he, ?_, by simp; omega, by simp; have := h.su; omega⟩, by omega, ⟨rfl, rfl, rfl⟩, hρ0, kd⟩
  · rw [f44_run]
    unfold f44
    clear hρ hρ0 hρ6 hρ5 hρ4 kd kk
    simp only [Nat.add_assoc, Nat.reduceAdd] at e2 e3 e4
    generalize R (d + 10) = rr at *
    generalize ((wrapB (putB e)).length : Int) = WL at *
    generalize ((framesB l).length : Int) = FL at *
    generalize (l.length : Int) = LL at *
    simp [nw1, l1, e2, aExtract, q3, l2, e3, q2, q1, ll, e4, ly, w1, nw5, ap6, st7, ck1, q17, l7, nw8, ap9, st10]
  · exact h.dk.keepR wf10 (by omega) (kd _ d1 (.inl ri)) (kd _ d2 (.inl rm)) fun f hf => ⟨kd _ (d3 f hf).1 (.inl (r.fb f hf)), fun c hc => kd _ ((d3 f hf).2 c hc) (.inl (r.fx f hf c hc))⟩
  · have := le9.keep (t := s10) fun c hc => k10 c (by
      rcases olx c hc with e | e
      · exact fun e' => plx (e' ▸ e)
      · omega)
    rw [cells_append]
    simpa using this
  · have := en6.keep (t := s10) fun c hc => by
      have hcp : c ≠ D.p := by
        rcases oex c hc with e | e
        · exact fun e' => pex (e' ▸ e)
        · omega
      rw [k10 c hcp, k9 c (by have := xlt c hc; omega) (fun e' => by
        rcases oex c hc with e | e
        · exact exl c e' e
        · have := p4 c e'; omega), k7 c hcp]
    rw [endsL_snoc, List.map_append, ← hE1]
    simpa using this
  · exact H3.keepR (K' := fun _ => True) wf10 (kk _ (by omega) (fun e => by have := r.b; rw [e, r.p] at this; cases this) (fun e => by have := r.ex _ e; rw [r.b] at this; cases this) (fun e => by have := r.lx _ e; rw [r.b] at this; cases this))
      (kk _ (by omega) (fun e => by have := r.mp; rw [e, r.p] at this; cases this) (fun e => by have := r.ex _ e; rw [r.mp] at this; cases this) (fun e => by have := r.lx _ e; rw [r.mp] at this; cases this))
      (fun c hc => kk c (qlt c hc) (qne c hc).1 (qne c hc).2.1 (qne c hc).2.2)
  · rw [hρ0 _ p1]; exact r.p
  · rw [hρ0 _ p2]; exact r.b
  · rw [hρ0 _ p3]; exact r.mp
  · intro c hc
    rcases olx c hc with e | e
    · rw [hρ0 c (p4 c e)]; exact r.lx c e
    · exact hρ4 c (by omega)
  · intro c hc
    rcases oex c hc with e | e
    · rw [hρ0 c (p5 c e)]; exact r.ex c e
    · exact hρ5 c (by omega) (by have := xlt c hc; omega)
  · intro c hc
    rcases oq c hc with e | e
    · rw [hρ0 c (p6 c e)]; exact r.qx c e
    · exact hρ6 c e (qlt c hc)
  · rw [hρ0 _ d1]; exact ri
  · rw [hρ0 _ d2]; exact rm
  · intro f hf
    rw [hρ0 _ (d3 f hf).1]; exact r.fb f hf
  · intro f hf c hc
    rw [hρ0 _ ((d3 f hf).2 c hc)]; exact r.fx f hf c hc
  · intro x hx
    rcases List.mem_append.1 hx with hx | hx
    · exact h.wf x hx
    · rw [List.mem_singleton] at hx
      rw [hx]; exact hw
end
end Go.Proofs.YtbohejffelipoaaGreatDoor

