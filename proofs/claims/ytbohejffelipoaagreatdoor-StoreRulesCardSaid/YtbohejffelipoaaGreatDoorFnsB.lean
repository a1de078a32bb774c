/-
  Several texts in one: what functions that the law reaches compute. No conditions but those named in each line.
-/
import Derived.Test.YtbohejffelipoaaGreatDoorFnsA
import Derived.Test.YtbohejffelipoaaGreatDoorAbsE
/-
  A number of digits: what strings.Trim at the digits, strconv.ParseInt at digits, and policy's number compute, in any store. No conditions but those named in each line.
-/
namespace Go.Proofs.YtbohejffelipoaaGreatDoor
open Go Go.Abs Go.Abs.F
set_option linter.unusedVariables false

def isDig (b : UInt8) : Bool := Nat.ble 48 b.toNat && Nat.ble b.toNat 57
def digits : Bs := [48, 49, 50, 51, 52, 53, 54, 55, 56, 57]
def digitSet : List S := (List.range 256).map fun c => S.bool (Nat.ble 48 c && Nat.ble c 57)
theorem digitSet_len : digitSet.length = 256 := by simp [digitSet]
theorem digitSet_get (b : UInt8) : digitSet[b.toNat]? = some (.bool (isDig b)) := by
  have := b.toNat_lt
  simp [digitSet, isDig, this]

theorem isDig_iff {b : UInt8} : isDig b = true ↔ 48 ≤ b.toNat ∧ b.toNat ≤ 57 := by
  simp [isDig, Nat.ble_eq]

def trimR (l : Bs) : Bs := (l.reverse.dropWhile isDig).reverse
theorem trimR_snoc (l : Bs) (c : UInt8) : trimR (l ++ [c]) = if isDig c then trimR l else l ++ [c] := by
  unfold trimR
  rw [List.reverse_append, List.reverse_singleton, List.singleton_append, List.dropWhile_cons]
  split <;> simp
theorem trimR_nil : trimR [] = [] := rfl

theorem dropWhile_nil (p : UInt8 → Bool) : ∀ l : Bs, l.dropWhile p = [] ↔ ∀ x ∈ l, p x = true
  | [] => by simp
  | a :: r => by
    have ih := dropWhile_nil p r
    rw [List.dropWhile_cons]
    by_cases h : p a = true
    · rw [if_pos h, ih]; simp [h]
    · rw [if_neg h]; simp [h]
theorem dropWhile_hd (p : UInt8 → Bool) : ∀ (l : Bs) (a : UInt8) (r : Bs), l.dropWhile p = a :: r → p a = false
  | [], a, r, h => by simp at h
  | b :: q, a, r, h => by
    rw [List.dropWhile_cons] at h
    by_cases hb : p b = true
    · rw [if_pos hb] at h; exact dropWhile_hd p q a r h
    · rw [if_neg hb] at h; cases h; simpa using hb

theorem trimD_nil (l : Bs) : (trimR l).dropWhile isDig = [] ↔ l.all isDig = true := by
  unfold trimR
  rw [List.all_eq_true]
  constructor
  · intro h
    have h1 := (dropWhile_nil isDig _).1 h
    have h2 : l.reverse.dropWhile isDig = [] := by
      cases hd : l.reverse.dropWhile isDig with
      | nil => rfl
      | cons a r =>
        exfalso
        have e1 := h1 a (by rw [hd]; simp)
        rw [dropWhile_hd isDig _ a r hd] at e1
        cases e1
    intro x hx
    exact (dropWhile_nil isDig _).1 h2 x (by simpa using hx)
  · intro h
    have h2 : l.reverse.dropWhile isDig = [] := (dropWhile_nil isDig _).2 fun x hx => h x (by simpa using hx)
    rw [h2]
    rfl

def valD (l : Bs) : Nat := l.foldl (fun n b => n * 10 + (b.toNat - 48)) 0
theorem valD_snoc (l : Bs) (c : UInt8) : valD (l ++ [c]) = valD l * 10 + (c.toNat - 48) := by simp [valD]
theorem valD_lt : ∀ (n : Nat) (l : Bs), l.length = n → l.all isDig = true → valD l < 10 ^ n
  | 0, l, h, _ => by
    have : l = [] := List.eq_nil_of_length_eq_zero h
    subst this
    decide
  | n + 1, l, h, ha => by
    rcases List.eq_nil_or_concat l with rfl | ⟨r, c, hl⟩
    · simp at h
    · rw [List.concat_eq_append] at hl
      subst hl
      rw [valD_snoc]
      have hr := valD_lt n r (by simpa using h) (by simp at ha; simpa using ha.1)
      have hc : isDig c = true := by simp at ha; exact ha.2
      rw [isDig_iff] at hc
      rw [Nat.pow_succ]
      omega

def numOk (l : Bs) : Bool := Nat.ble 1 l.length && Nat.ble l.length 13 && l.all isDig
def numV (l : Bs) : Nat := match numOk l with
  | true => valD l
  | false => 0

section
variable {s t : St} {x y : S} {l : Bs} {i : Nat} {w : Bool}

theorem aIndexArr_u8 (n : Nat) (b : UInt8) (h : b.toNat < n) (i o : Nat) : aIndexArr n 1 (Z (.ptr i o)) (I .u8 b.toNat) = some (Z (.ptr i (o + b.toNat))) := by
  have h2 : aIdx (I .u8 (b.toNat : Int)) n = some b.toNat := by simp [aIdx, h]
  simp [aIndexArr, h2]

theorem contains_run (d : Nat) (h : s.get i = some (.cells w digitSet)) (b : UInt8) : R (d + 1) 212 [Z (.ptr i 0), I .u8 b.toNat] s = some (B (isDig b), s) := by
  rw [f212_run]
  unfold f212
  have ix := aIndexArr_u8 256 b b.toNat_lt i 0
  have ld : aLoad1 (Z (.ptr i (0 + b.toNat))) s.get = some (B (isDig b)) := aLoad1_of h (by rw [Nat.zero_add]; exact digitSet_get b)
  simp only [aNil_ptr, bd_some, ix, ld]

theorem trimRight_run (d : Nat) (h : s.get i = some (.cells w digitSet)) (hl : l.length ≤ 8000) : R (d + 2) 169 [Z (.str l), Z (.ptr i 0)] s = some (Z (.str (trimR l)), s) := by
  rw [f169_run]
  unfold f169
  obtain ⟨j, τ, lp, hj, hτ⟩ := loops_inv (f := f169_l1 (R (d + 1)) 8192) (fun q v u => ∃ m : Bs, q = m.length ∧ v = [Z (.str m), Z (.ptr i 0)] ∧ u = s ∧ trimR m = trimR l ∧ m.length ≤ l.length)
    (fun j u => j = .exit 0 [Z (.str (trimR l))] ∧ u = s) (by
    rintro q v u ⟨m, rfl, rfl, rfl, hm, hml⟩
    rcases List.eq_nil_or_concat m with rfl | ⟨r, c, hmr⟩
    · right
      refine ⟨_, u, ?_, (fun v hv => by cases hv), rfl, rfl⟩
      unfold f169_l1
      rw [← hm]
      simp [trimR_nil]
    · rw [List.concat_eq_append] at hmr
      have hlen : m.length = r.length + 1 := by rw [hmr]; simp
      have c0 : 0 < m.length := by omega
      have w1 : IntKind.i64.wrap ((m.length : Int) - 1) = (r.length : Int) := by rw [wrap_in _ (by omega) (by omega)]; omega
      have hat : aAtStr (Z (.str m)) (I .i64 (r.length : Int)) = some (I .u8 c.toNat) := at_str rfl (by rw [hmr]; simp)
      have hc := contains_run d h c
      have pc := aPieceStr_hi (l := m) (m := r.length) (n := (r.length : Int)) rfl (by omega)
      have htk : m.take r.length = r := by rw [hmr]; simp
      rw [htk] at pc
      have hs := trimR_snoc r c
      rw [← hmr, hm] at hs
      cases hd : isDig c with
      | true =>
        left
        rw [hd] at hs hc
        refine ⟨[Z (.str r), Z (.ptr i 0)], u, r.length, ?_, by omega, r, rfl, rfl, rfl, by simpa using hs.symm, by omega⟩
        unfold f169_l1
        simp [c0, w1, hat, hc, pc]
      | false =>
        right
        rw [hd] at hs hc
        refine ⟨.exit 0 [Z (.str (trimR l))], u, ?_, (fun v hv => by cases hv), rfl, rfl⟩
        unfold f169_l1
        have : trimR l = m := by rw [hs, hmr]; simp
        rw [this]
        simp [c0, w1, hat, hc]) 8192 l.length [Z (.str l), Z (.ptr i 0)] s ⟨l, rfl, rfl, rfl, rfl, Nat.le_refl _⟩ (by omega)
  subst hτ; subst hj
  simp [lp]

theorem trimLeft_run (d : Nat) (h : s.get i = some (.cells w digitSet)) (hl : l.length ≤ 8000) : R (d + 2) 168 [Z (.str l), Z (.ptr i 0)] s = some (Z (.str (l.dropWhile isDig)), s) := by
  rw [f168_run]
  unfold f168
  obtain ⟨j, τ, lp, hj, hτ⟩ := loops_inv (f := f168_l1 (R (d + 1)) 8192) (fun q v u => ∃ m : Bs, q = m.length ∧ v = [Z (.str m), Z (.ptr i 0)] ∧ u = s ∧ m.dropWhile isDig = l.dropWhile isDig ∧ m.length ≤ l.length)
    (fun j u => j = .exit 0 [Z (.str (l.dropWhile isDig))] ∧ u = s) (by
    rintro q v u ⟨m, rfl, rfl, rfl, hm, hml⟩
    cases m with
    | nil =>
      right
      refine ⟨_, u, ?_, (fun v hv => by cases hv), rfl, rfl⟩
      unfold f168_l1
      rw [← hm]
      simp
    | cons c r =>
      have hat : aAtStr (Z (.str (c :: r))) (I .i64 0) = some (I .u8 c.toNat) := at_str (j := 0) rfl rfl
      have hc := contains_run d h c
      have pc := aPieceStr_lo (l := c :: r) (m := 1) (n := 1) rfl (by simp)
      rw [List.dropWhile_cons] at hm
      cases hd : isDig c with
      | true =>
        left
        rw [hd] at hm hc
        refine ⟨[Z (.str r), Z (.ptr i 0)], u, r.length, ?_, by simp, r, rfl, rfl, rfl, by simpa using hm, by simp at hml; omega⟩
        unfold f168_l1
        simp [hat, hc, pc]
      | false =>
        right
        rw [hd] at hm hc
        refine ⟨.exit 0 [Z (.str (l.dropWhile isDig))], u, ?_, (fun v hv => by cases hv), rfl, rfl⟩
        unfold f168_l1
        have : l.dropWhile isDig = c :: r := by rw [← hm]; simp
        rw [this]
        simp [hat, hc]) 8192 l.length [Z (.str l), Z (.ptr i 0)] s ⟨l, rfl, rfl, rfl, rfl, Nat.le_refl _⟩ (by omega)
  subst hτ; subst hj
  simp [lp]

theorem setRange_all {vs xs : List S} (h : vs.length = xs.length) : setRange vs 0 xs = xs := by
  rw [setRange_eq _ _ _ (by omega), List.take_zero, List.nil_append, List.drop_eq_nil_of_le (by omega), List.append_nil]

theorem makeSet_run (d : Nat) : R (d + 1) 167 [Z (.str digits)] s = some (.tup [.agg digitSet, .s (.bool true)], s) := runQ_prim (prim_set _)

set_option maxRecDepth 100000 in
theorem trim_run (d : Nat) (wf : s.wf) (h0 : l ≠ []) (hl : l.length ≤ 8000) : ∃ t, R (d + 4) 129 [Z (.str l), Z (.str digits)] s = some (Z (.str ((trimR l).dropWhile isDig)), t) ∧ Gr s t := by
  rw [f129_run]
  unfold f129
  generalize hq : nCells _ = q
  obtain ⟨z, rfl, hz⟩ : ∃ z : List S, q = nCells z ∧ z.length = 256 := ⟨_, hq.symm, rfl⟩
  clear hq
  have e1 := makeSet_run (s := s) (d + 2)
  have nw : aNew s (nCells z) = some (Z (.ptr s.size 0), s.push (.cells true z)) := rfl
  have hb : (V.agg digitSet).cells.length = 256 ∧ 0 + 256 ≤ z.length := ⟨digitSet_len, by omega⟩
  obtain ⟨t, ht⟩ : ∃ t, t = (s.push (.cells true z)).set s.size (.cells true digitSet) := ⟨_, rfl⟩
  have st : aStore 256 (Z (.ptr s.size 0)) (.v (.agg digitSet)) (s.push (.cells true z)) = some (tt, t) := by
    simp only [aStore, St.get_push_same, if_pos hb]
    rw [show (V.agg digitSet).cells = digitSet from rfl, setRange_all (by rw [hz, digitSet_len]), ← ht]
  have g : Gr s t := by
    rw [ht]
    exact ⟨St.wf_set (St.wf_push wf _) (by simp) _, by simp, fun b hb => by rw [St.get_set_ne _ _ (by omega), St.get_push_ne _ _ (by omega)]⟩
  have gn : t.get s.size = some (.cells true digitSet) := by rw [ht]; exact St.get_set_same _ _ _
  have r1 := trimRight_run (l := l) (d + 1) gn hl
  have hl2 : (trimR l).length ≤ 8000 := by
    have : (trimR l).length ≤ l.length := by
      unfold trimR
      rw [List.length_reverse]
      have := (List.dropWhile_sublist (p := isDig) (l := l.reverse)).length_le
      simpa using this
    omega
  have r2 := trimLeft_run (l := trimR l) (d + 1) gn hl2
  have hd : ¬ digits = [] := by decide
  have hdl : (digits.length : Int) = 10 := rfl
  refine ⟨t, ?_, g⟩
  simp only [Nat.add_assoc, Nat.reduceAdd] at e1 r1 r2
  generalize R (d + 3) = r at *
  generalize digits = dg at *
  simp [h0, hd, hdl, e1, aExtract, nw, st, r1, r2]

theorem parseUint_run (d : Nat) (wf : s.wf) (h0 : l ≠ []) (hl : l.length ≤ 13) (hd : l.all isDig = true) : ∃ t, R (d + 1) 226 [Z (.str l), I .i64 10, I .i64 64] s = some (.tup [.s (.int .u64 (valD l)), .s .nili], t) ∧ Gr s t := by
  rw [f226_run]
  unfold f226
  obtain ⟨t, ht⟩ : ∃ t, t = s.push (.cells false (U l)) := ⟨_, rfl⟩
  have nw : aNew s (nBytes (Z (.str l))) = some (Z (.sl s.size 0 l.length (.grown 1)), t) := by rw [ht]; rfl
  have g : Gr s t := by rw [ht]; exact Gr.push wf _
  have rb : RB t (.sl s.size 0 l.length (.grown 1)) l := ⟨by simp, .inr ⟨s.size, 0, _, false, U l, rfl, by rw [ht]; exact St.get_push_same _ _, by simp, by rw [List.drop_zero]; exact List.take_of_length_le (by simp)⟩, rfl⟩
  have hv := valD_lt
  have hdg : ∀ (k : Nat) (b : UInt8), l[k]? = some b → 48 ≤ b.toNat ∧ b.toNat ≤ 57 := fun k b hb => by
    rw [List.all_eq_true] at hd
    exact isDig_iff.1 (hd b (List.mem_of_getElem? hb))
  have hvt : ∀ k, k ≤ 13 → valD (l.take k) < 10000000000000 := fun k hk => by
    have h1 := valD_lt (l.take k).length (l.take k) rfl (by rw [List.all_eq_true] at hd ⊢; exact fun x hx => hd x (List.mem_of_mem_take hx))
    have h2 : 10 ^ (l.take k).length ≤ 10 ^ 13 := Nat.pow_le_pow_right (by omega) (by rw [List.length_take]; omega)
    have h3 : (10 : Nat) ^ 13 = 10000000000000 := by decide
    omega
  obtain ⟨j, τ, lp, hj, hτ⟩ := loops_inv (f := f226_l1 (R d) 8192) (fun q v u => ∃ k : Nat, q + k = l.length ∧ v = [I .i64 10, B false, Z (.str l), I .u64 1844674407370955162, I .u64 18446744073709551615, B false, I .u64 (valD (l.take k)), Z (.sl s.size 0 l.length (.grown 1)), I .i64 l.length, I .i64 k] ∧ u = t)
    (fun j u => j = .exit 3 [Z (.str l), B false, I .u64 (valD l)] ∧ u = t) (by
    rintro q v u ⟨k, hk, rfl, rfl⟩
    by_cases hkl : k < l.length
    · left
      have hc : l[k]? = some l[k] := List.getElem?_eq_getElem hkl
      obtain ⟨p, ix, ld⟩ := RB.atB rb (n := (k : Int)) rfl hc
      obtain ⟨d1, d2⟩ := hdg k _ hc
      have c0 : (k : Int) < (l.length : Int) := by omega
      have w1 : IntKind.i64.wrap ((k : Int) + 1) = ((k + 1 : Nat) : Int) := by rw [wrap_in _ (by omega) (by omega)]; omega
      have hsn : valD (l.take (k + 1)) = valD (l.take k) * 10 + (l[k].toNat - 48) := by rw [List.take_add_one, hc, Option.toList_some, valD_snoc]
      have hb0 := hvt k (by omega)
      have hb1 := hvt (k + 1) (by omega)
      have k1 : ¬ ((l[k].toNat : Int) = 95) := by omega
      have k2 : (48 : Int) ≤ (l[k].toNat : Int) := by omega
      have k3 : (l[k].toNat : Int) ≤ 57 := by omega
      obtain ⟨D, hD⟩ : ∃ D : Int, D = (l[k].toNat : Int) - 48 := ⟨_, rfl⟩
      have w8 : IntKind.u8.wrap ((l[k].toNat : Int) - 48) = D := by
        have := wrap8 (l[k].toNat - 48)
        rw [show (((l[k].toNat - 48 : Nat)) : Int) = (l[k].toNat : Int) - 48 by omega] at this
        rw [this, hD]
        omega
      have w10 : IntKind.u8.wrap 10 = 10 := rfl
      have w10' : IntKind.u64.wrap 10 = 10 := rfl
      have k4 : ¬ (10 : Int) ≤ D := by omega
      have k5 : ¬ (1844674407370955162 : Int) ≤ (valD (l.take k) : Int) := by omega
      have wm : IntKind.u64.wrap ((valD (l.take k) : Int) * 10) = (valD (l.take k) : Int) * 10 := wrap_u64_in _ (by omega) (by omega)
      have wd : IntKind.u64.wrap D = D := wrap_u64_in _ (by omega) (by omega)
      have wa : IntKind.u64.wrap ((valD (l.take k) : Int) * 10 + D) = (valD (l.take (k + 1)) : Int) := by
        rw [wrap_u64_in _ (by omega) (by omega), hsn]
        omega
      have k6 : ¬ ((valD (l.take (k + 1)) : Int) < (valD (l.take k) : Int) * 10) := by omega
      have k7 : ¬ ((18446744073709551615 : Int) < (valD (l.take (k + 1)) : Int)) := by omega
      refine ⟨[I .i64 10, B false, Z (.str l), I .u64 1844674407370955162, I .u64 18446744073709551615, B false, I .u64 (valD (l.take (k + 1))), Z (.sl s.size 0 l.length (.grown 1)), I .i64 l.length, I .i64 ((k + 1 : Nat) : Int)], u, q - 1, ?_, by omega, k + 1, by omega, rfl, rfl⟩
      unfold f226_l1
      generalize ((k + 1 : Nat) : Int) = K1 at w1 ⊢
      generalize (valD (l.take (k + 1)) : Int) = V1 at wa k6 k7 ⊢
      generalize (valD (l.take k) : Int) = V0 at k5 wm wa k6 ⊢
      generalize (l[k].toNat : Int) = C at ld k1 k2 k3 w8
      generalize (k : Int) = K at *
      generalize (l.length : Int) = L at *
      simp [c0, ix, ld, k1, k2, k3, w8, w10, w10', k4, k5, wm, wd, wa, k6, k7, w1]
    · right
      have hk' : k = l.length := by omega
      subst hk'
      refine ⟨.exit 3 [Z (.str l), B false, I .u64 (valD l)], u, ?_, (fun v hv => by cases hv), rfl, rfl⟩
      unfold f226_l1
      rw [List.take_length]
      simp) 8192 l.length [I .i64 10, B false, Z (.str l), I .u64 1844674407370955162, I .u64 18446744073709551615, B false, I .u64 0, Z (.sl s.size 0 l.length (.grown 1)), I .i64 l.length, I .i64 0] t ⟨0, rfl, rfl, rfl⟩ (by omega)
  subst hτ; subst hj
  refine ⟨τ, ?_, g⟩
  have w64 : IntKind.u64.wrap 64 = 64 := rfl
  have sh : aBin .shl (I .u64 1) (I .u64 64) = some (I .u64 0) := by rfl
  have sb : IntKind.u64.wrap (-1) = 18446744073709551615 := by rfl
  simp [h0, w64, sh, sb, nw, lp, retT, allV]

theorem parseInt_run (d : Nat) (wf : s.wf) (h0 : l ≠ []) (hl : l.length ≤ 13) (hd : l.all isDig = true) : ∃ t, R (d + 3) 251 [Z (.str l), I .i64 10, I .i64 64] s = some (.tup [.s (.int .i64 (valD l)), .s .nili], t) ∧ Gr s t := by
  obtain ⟨t, e, g⟩ := parseUint_run d wf h0 hl hd
  have hv := valD_lt l.length l rfl hd
  have h13 : 10 ^ l.length ≤ 10 ^ 13 := Nat.pow_le_pow_right (by omega) hl
  have h3 : (10 : Nat) ^ 13 = 10000000000000 := by decide
  have key : R (d + 2) 185 [Z (.str l), I .i64 10, I .i64 64] s = some (.tup [.s (.int .i64 (valD l)), .s .nili], t) := by
    rw [f185_run]
    unfold f185
    obtain ⟨c, r, rfl⟩ : ∃ c r, l = c :: r := by cases l with
      | nil => exact absurd rfl h0
      | cons c r => exact ⟨c, r, rfl⟩
    have hat : aAtStr (Z (.str (c :: r))) (I .i64 0) = some (I .u8 c.toNat) := at_str (j := 0) rfl rfl
    have hc : 48 ≤ c.toNat ∧ c.toNat ≤ 57 := isDig_iff.1 (by simp at hd; exact hd.1)
    have k1 : ¬ ((c.toNat : Int) = 43) := by omega
    have k2 : ¬ ((c.toNat : Int) = 45) := by omega
    have n1 : neB .i (Z .nili) (Z .nili) = some (B false) := rfl
    have w63 : IntKind.u64.wrap 63 = 63 := rfl
    have sh : aBin .shl (I .u64 1) (I .u64 63) = some (I .u64 9223372036854775808) := by rfl
    have k3 : ¬ ((9223372036854775808 : Int) ≤ (valD (c :: r) : Int)) := by omega
    have wv : IntKind.i64.wrap (valD (c :: r) : Int) = (valD (c :: r) : Int) := wrap_in _ (by omega) (by omega)
    have w64 : IntKind.i64.wrap 63 = 63 := rfl
    generalize (valD (c :: r) : Int) = V at *
    generalize (c.toNat : Int) = C at *
    generalize R (d + 1) = rr at *
    simp [hat, k1, k2, e, aExtract, n1, w63, w64, sh, k3, wv, retT, allV]
  refine ⟨t, ?_, g⟩
  rw [f251_run]
  unfold f251
  have n1 : neB .i (Z .nili) (Z .nili) = some (B false) := rfl
  simp [key, aExtract, n1, retT, allV]

theorem number_run (d : Nat) (wf : s.wf) : ∃ t, R (d + 5) 223 [Z (.str l)] s = some (.tup [.s (.int .i64 (numV l)), .s (.bool (numOk l))], t) ∧ Gr s t := by
  rw [f223_run]
  unfold f223
  by_cases h1 : 1 ≤ l.length
  · by_cases h2 : l.length ≤ 13
    · have hne : l ≠ [] := fun e => by rw [e] at h1; simp at h1
      obtain ⟨t, e1, g1⟩ := trim_run d wf hne (by omega)
      have c1 : ¬ ((l.length : Int) < 1) := by omega
      have c2 : ¬ ((13 : Int) < (l.length : Int)) := by omega
      have hb1 : Nat.ble 1 l.length = true := Nat.ble_eq_true_of_le h1
      have hb2 : Nat.ble l.length 13 = true := Nat.ble_eq_true_of_le h2
      by_cases hall : l.all isDig = true
      · have hnil := (trimD_nil l).2 hall
        rw [hnil] at e1
        obtain ⟨t2, e2, g2⟩ := parseInt_run (l := l) (d + 1) g1.wf hne h2 hall
        have hok : numOk l = true := by simp [numOk, hb1, hb2, hall]
        have hv : numV l = valD l := by simp [numV, hok]
        have n1 : eqB .i (Z .nili) (Z .nili) = some (B true) := rfl
        refine ⟨t2, ?_, g1.trans g2⟩
        rw [hok, hv]
        simp only [digits] at e1
        generalize R (d + 4) = r at *
        simp [c1, c2, e1, e2, aExtract, n1, retT, allV]
      · have hnn : ¬ ((trimR l).dropWhile isDig = []) := fun e => hall ((trimD_nil l).1 e)
        have hok : numOk l = false := by simp only [numOk, hb1, hb2, Bool.true_and]; simpa using hall
        have hv : numV l = 0 := by simp [numV, hok]
        refine ⟨t, ?_, g1⟩
        rw [hok, hv]
        simp only [digits] at e1
        generalize R (d + 4) = r at *
        simp [c1, c2, e1, hnn, retT, allV]
    · have c1 : ¬ ((l.length : Int) < 1) := by omega
      have c2 : (13 : Int) < (l.length : Int) := by omega
      have hok : numOk l = false := by
        have : Nat.ble l.length 13 = false := by
          rw [Bool.eq_false_iff]
          intro h
          exact h2 (Nat.le_of_ble_eq_true h)
        simp [numOk, this]
      have hv : numV l = 0 := by simp [numV, hok]
      refine ⟨s, ?_, Gr.refl wf⟩
      rw [hok, hv]
      simp [c1, c2, retT, allV]
  · have c1 : ((l.length : Int) < 1) := by omega
    have hok : numOk l = false := by
      have : Nat.ble 1 l.length = false := by
        rw [Bool.eq_false_iff]
        intro h
        exact h1 (Nat.le_of_ble_eq_true h)
      simp [numOk, this]
    have hv : numV l = 0 := by simp [numV, hok]
    refine ⟨s, ?_, Gr.refl wf⟩
    rw [hok, hv]
    simp [c1, retT, allV]
end
end Go.Proofs.YtbohejffelipoaaGreatDoor


/-
  Policies: what policy.Default, May, line and Parse compute, in any store. No conditions but those named in each line.
-/
namespace Go.Proofs.YtbohejffelipoaaGreatDoor
open Go Go.Abs Go.Abs.F
set_option linter.unusedVariables false

structure Pol where
  a0 : Int
  a1 : Int
  a2 : Int
  a3 : Int
  c : Int
  n : Int
  deriving DecidableEq

def cP (p : Pol) : List S := [.int .i64 p.a0, .int .i64 p.a1, .int .i64 p.a2, .int .i64 p.a3, .int .i64 p.c, .int .i64 p.n]
abbrev AP (p : Pol) : T := .v (.agg (cP p))
def pol0 : Pol := ⟨0, 0, 0, 0, 0, 0⟩
def polD : Pol := ⟨60, 600, 6000, 0, 8, 30⟩

def ageOk (n : Int) : Bool := decide (0 ≤ n) && decide (n ≤ 1099511627776)
def nxtOk (was n : Int) : Bool := decide (n = 0) || (decide (was ≤ n) && !decide (was = 0))
def agesOk (p : Pol) : Bool := ageOk p.a0 && (ageOk p.a1 && nxtOk p.a0 p.a1) && (ageOk p.a2 && nxtOk p.a1 p.a2) && (ageOk p.a3 && nxtOk p.a2 p.a3)
def mayP (p : Pol) : Bool := agesOk p && decide (p.a3 = 0) && decide (1 ≤ p.c) && decide (p.c ≤ 64) && decide (1 ≤ p.n) && decide (p.n ≤ 200)

section
variable {s t : St} {x y : S} {l : Bs} {i : Nat}

theorem store6 {i : Nat} {vs : List S} {p : Pol} (h : s.get i = some (.cells true vs)) (hv : vs.length = 6) : aStore 6 (Z (.ptr i 0)) (AP p) s = some (tt, s.set i (.cells true (cP p))) := by
  have hb : (V.agg (cP p)).cells.length = 6 ∧ 0 + 6 ≤ vs.length := ⟨rfl, by omega⟩
  simp only [aStore, h, if_pos hb]
  rw [show (V.agg (cP p)).cells = cP p from rfl, setRange_all (by rw [hv]; rfl)]
theorem load6 {i : Nat} {w : Bool} {p : Pol} {g : Mem} (h : g i = some (.cells w (cP p))) : aLoadN 6 (Z (.ptr i 0)) g = some (AP p) := by
  simp [aLoadN, h, cP]
theorem agg6 : asAggT (aFill [.int .i64 0, .int .i64 0, .int .i64 0, .int .i64 0, .int .i64 0, .int .i64 0] []) = some (AP pol0) := rfl

theorem gtt (b : Bool) : gd tt b = some false := rfl

theorem default_run (d : Nat) (wf : s.wf) : ∃ t, R (d + 1) 91 [] s = some (AP polD, t) ∧ Gr s t := by
  rw [f91_run]
  unfold f91
  have e1 : asAggT (aFill [.int .i64 0, .int .i64 0, .int .i64 0, .int .i64 0] [(0, 1, (I .i64 60)), (1, 1, (I .i64 600)), (2, 1, (I .i64 6000)), (3, 1, (I .i64 0))]) = some (.v (.agg [.int .i64 60, .int .i64 600, .int .i64 6000, .int .i64 0])) := rfl
  have e2 : asAggT (aFill [.int .i64 0, .int .i64 0, .int .i64 0, .int .i64 0, .int .i64 0, .int .i64 0] [(0, 4, .v (.agg [.int .i64 60, .int .i64 600, .int .i64 6000, .int .i64 0])), (4, 1, (I .i64 8)), (5, 1, (I .i64 30))]) = some (AP polD) := rfl
  obtain ⟨s1, hs1⟩ : ∃ s1, s1 = s.push (.cells true (cP pol0)) := ⟨_, rfl⟩
  have nw : aNew s (nCells [.int .i64 0, .int .i64 0, .int .i64 0, .int .i64 0, .int .i64 0, .int .i64 0]) = some (Z (.ptr s.size 0), s1) := by rw [hs1]; rfl
  have h1 : s1.get s.size = some (.cells true (cP pol0)) := by rw [hs1]; exact St.get_push_same _ _
  obtain ⟨s2, hs2⟩ : ∃ s2, s2 = s1.set s.size (.cells true (cP polD)) := ⟨_, rfl⟩
  have st := store6 (p := polD) h1 rfl
  rw [← hs2] at st
  have h2 : s2.get s.size = some (.cells true (cP polD)) := by rw [hs2]; exact St.get_set_same _ _ _
  have ld := load6 (g := s2.get) h2
  refine ⟨s2, ?_, ?_⟩
  · simp [nw, e1, e2, st, ld, rC, retT]
  · rw [hs2, hs1]
    exact ⟨St.wf_set (St.wf_push wf _) (by simp) _, by simp, fun b hb => by rw [St.get_set_ne _ _ (by omega), St.get_push_ne _ _ (by omega)]⟩

def ageAt (p : Pol) : Nat → Int
  | 0 => p.a0
  | 1 => p.a1
  | 2 => p.a2
  | _ => p.a3
def okAt (p : Pol) : Nat → Bool
  | 0 => ageOk p.a0
  | 1 => ageOk p.a1 && nxtOk p.a0 p.a1
  | 2 => ageOk p.a2 && nxtOk p.a1 p.a2
  | _ => ageOk p.a3 && nxtOk p.a2 p.a3
theorem agesOk_iff (p : Pol) : agesOk p = true ↔ ∀ j, j < 4 → okAt p j = true := by
  constructor
  · intro h j hj
    simp only [agesOk, Bool.and_eq_true] at h
    match j, hj with
    | 0, _ => exact h.1.1.1
    | 1, _ => simp only [okAt, Bool.and_eq_true]; exact h.1.1.2
    | 2, _ => simp only [okAt, Bool.and_eq_true]; exact h.1.2
    | 3, _ => simp only [okAt, Bool.and_eq_true]; exact h.2
  · intro h
    have h0 := h 0 (by omega)
    have h1 := h 1 (by omega)
    have h2 := h 2 (by omega)
    have h3 := h 3 (by omega)
    simp only [okAt] at h0 h1 h2 h3
    simp only [agesOk, h0, h1, h2, h3, Bool.and_self]

theorem may_run (d : Nat) (wf : s.wf) (p : Pol) : ∃ t, R (d + 1) 184 [AP p] s = some (B (mayP p), t) ∧ Gr s t := by
  rw [f184_run]
  unfold f184
  obtain ⟨s1, hs1⟩ : ∃ s1, s1 = s.push (.cells true (cP p)) := ⟨_, rfl⟩
  have nw : aNew s (nBox (AP p)) = some (Z (.ptr s.size 0), s1) := by rw [hs1]; rfl
  have h1 : s1.get s.size = some (.cells true (cP p)) := by rw [hs1]; exact St.get_push_same _ _
  have g : Gr s s1 := by rw [hs1]; exact Gr.push wf _
  have l4 : aLoadN 4 (Z (.ptr s.size 0)) s1.get = some (.v (.agg [.int .i64 p.a0, .int .i64 p.a1, .int .i64 p.a2, .int .i64 p.a3])) := by simp [aLoadN, h1, cP]
  have ld : ∀ j, j < 4 → aLoad1 (Z (.ptr s.size j)) s1.get = some (I .i64 (ageAt p j)) := fun j hj => by
    match j, hj with
    | 0, _ => exact aLoad1_of h1 rfl
    | 1, _ => exact aLoad1_of h1 rfl
    | 2, _ => exact aLoad1_of h1 rfl
    | 3, _ => exact aLoad1_of h1 rfl
  have ld4 : aLoad1 (Z (.ptr s.size 4)) s1.get = some (I .i64 p.c) := aLoad1_of h1 rfl
  have ld5 : aLoad1 (Z (.ptr s.size 5)) s1.get = some (I .i64 p.n) := aLoad1_of h1 rfl
  have at4 : ∀ j, j < 4 → aAtArr none 4 1 (.v (.agg [.int .i64 p.a0, .int .i64 p.a1, .int .i64 p.a2, .int .i64 p.a3])) (I .i64 (j : Nat)) = some (I .i64 (ageAt p j)) := fun j hj => by
    match j, hj with
    | 0, _ => rfl
    | 1, _ => rfl
    | 2, _ => rfl
    | 3, _ => rfl
  have ix : ∀ j : Nat, j < 4 → aIndexArr 4 1 (Z (.ptr s.size 0)) (I .i64 (j : Nat)) = some (Z (.ptr s.size j)) := fun j hj => by
    match j, hj with
    | 0, _ => rfl
    | 1, _ => rfl
    | 2, _ => rfl
    | 3, _ => rfl
  obtain ⟨j, τ, lp, hj, hτ⟩ := loops_inv (f := f184_l1 (R d) 8192) (fun q v u => ∃ k : Nat, q + k = 4 ∧ v = [Z (.ptr s.size 0), .v (.agg [.int .i64 p.a0, .int .i64 p.a1, .int .i64 p.a2, .int .i64 p.a3]), I .i64 k] ∧ u = s1 ∧ ∀ j, j < k → okAt p j = true)
    (fun j u => (j = .exit 0 [Z (.ptr s.size 0)] ∧ agesOk p = true ∨ j = .ret (B false) ∧ agesOk p = false) ∧ u = s1) (by
    rintro q v u ⟨k, hk, rfl, rfl, hok⟩
    by_cases hk4 : k < 4
    · have bad : okAt p k = false → agesOk p = false := fun h => by
        rw [Bool.eq_false_iff]
        intro h2
        rw [(agesOk_iff p).1 h2 k hk4] at h
        cases h
      have next : okAt p k = true → ∀ j, j < k + 1 → okAt p j = true := fun h j hj => by
        by_cases e : j = k
        · subst e; exact h
        · exact hok j (by omega)
      have c0 : (k : Int) < 4 := by omega
      have w1 : IntKind.i64.wrap ((k : Int) + 1) = ((k + 1 : Nat) : Int) := by rw [wrap_in _ (by omega) (by omega)]; omega
      have hat := at4 k hk4
      obtain ⟨a, ha⟩ : ∃ a, a = ageAt p k := ⟨_, rfl⟩
      rw [← ha] at hat
      have hage : okAt p k = (ageOk a && (decide (k = 0) || nxtOk (ageAt p (k - 1)) a)) := by
        rw [ha]
        match k, hk4 with
        | 0, _ => simp [okAt, ageAt]
        | 1, _ => simp [okAt, ageAt]
        | 2, _ => simp [okAt, ageAt]
        | 3, _ => simp [okAt, ageAt]
      by_cases c1 : a < 0
      · right
        have : okAt p k = false := by
          have : ¬ 0 ≤ a := by omega
          rw [hage]; simp [ageOk, this]
        refine ⟨.ret (B false), u, ?_, (fun v hv => by cases hv), .inr ⟨rfl, bad this⟩, rfl⟩
        unfold f184_l1
        simp [c0, hat, c1]
      · by_cases c2 : 1099511627776 < a
        · right
          have : okAt p k = false := by
            have : ¬ a ≤ 1099511627776 := by omega
            rw [hage]; simp [ageOk, this]
          refine ⟨.ret (B false), u, ?_, (fun v hv => by cases hv), .inr ⟨rfl, bad this⟩, rfl⟩
          unfold f184_l1
          simp [c0, hat, c1, c2]
        · have hA : ageOk a = true := by
            have h1 : 0 ≤ a := by omega
            have h2 : a ≤ 1099511627776 := by omega
            simp [ageOk, h1, h2]
          by_cases k0 : k = 0
          · left
            have : okAt p k = true := by rw [hage]; simp [hA, k0]
            refine ⟨[Z (.ptr s.size 0), .v (.agg [.int .i64 p.a0, .int .i64 p.a1, .int .i64 p.a2, .int .i64 p.a3]), I .i64 ((k + 1 : Nat) : Int)], u, q - 1, ?_, by omega, k + 1, by omega, rfl, rfl, next this⟩
            unfold f184_l1
            subst k0
            have hat0 : aAtArr none 4 1 (.v (.agg [.int .i64 p.a0, .int .i64 p.a1, .int .i64 p.a2, .int .i64 p.a3])) (I .i64 0) = some (I .i64 a) := hat
            have w0 : IntKind.i64.wrap 1 = 1 := rfl
            simp [hat0, c1, c2, w0]
          · obtain ⟨b, hb⟩ : ∃ b, b = ageAt p (k - 1) := ⟨_, rfl⟩
            rw [← hb] at hage
            have ck0 : ¬ (k : Int) = 0 := by omega
            have w2 : IntKind.i64.wrap ((k : Int) - 1) = ((k - 1 : Nat) : Int) := by rw [wrap_in _ (by omega) (by omega)]; omega
            have ix1 := ix (k - 1) (by omega)
            have ld1 := ld (k - 1) (by omega)
            rw [← hb] at ld1
            by_cases c3 : a = 0
            · left
              have : okAt p k = true := by rw [hage, hA]; simp [nxtOk, c3]
              refine ⟨[Z (.ptr s.size 0), .v (.agg [.int .i64 p.a0, .int .i64 p.a1, .int .i64 p.a2, .int .i64 p.a3]), I .i64 ((k + 1 : Nat) : Int)], u, q - 1, ?_, by omega, k + 1, by omega, rfl, rfl, next this⟩
              unfold f184_l1
              subst c3
              generalize ((k + 1 : Nat) : Int) = K1 at w1 ⊢
              generalize ((k - 1 : Nat) : Int) = K0 at w2 ix1
              generalize (k : Int) = K at *
              simp [c0, hat, ck0, w2, ix1, ld1, w1, gtt]
            · by_cases c4 : a < b
              · right
                have : okAt p k = false := by
                  have h1 : ¬ b ≤ a := by omega
                  rw [hage]; simp [hA, nxtOk, c3, h1, k0]
                refine ⟨.ret (B false), u, ?_, (fun v hv => by cases hv), .inr ⟨rfl, bad this⟩, rfl⟩
                unfold f184_l1
                generalize ((k - 1 : Nat) : Int) = K0 at w2 ix1
                generalize (k : Int) = K at *
                simp [c0, hat, c1, c2, ck0, w2, ix1, ld1, c3, c4]
              · by_cases c5 : b = 0
                · right
                  have : okAt p k = false := by rw [hage]; simp [hA, nxtOk, c3, c5, k0]
                  refine ⟨.ret (B false), u, ?_, (fun v hv => by cases hv), .inr ⟨rfl, bad this⟩, rfl⟩
                  unfold f184_l1
                  generalize ((k - 1 : Nat) : Int) = K0 at w2 ix1
                  generalize (k : Int) = K at *
                  simp [c0, hat, c1, c2, ck0, w2, ix1, ld1, c3, c4, c5]
                · left
                  have : okAt p k = true := by
                    have h1 : b ≤ a := by omega
                    rw [hage]; simp [hA, nxtOk, h1, c5]
                  refine ⟨[Z (.ptr s.size 0), .v (.agg [.int .i64 p.a0, .int .i64 p.a1, .int .i64 p.a2, .int .i64 p.a3]), I .i64 ((k + 1 : Nat) : Int)], u, q - 1, ?_, by omega, k + 1, by omega, rfl, rfl, next this⟩
                  unfold f184_l1
                  generalize ((k + 1 : Nat) : Int) = K1 at w1 ⊢
                  generalize ((k - 1 : Nat) : Int) = K0 at w2 ix1
                  generalize (k : Int) = K at *
                  simp [c0, hat, c1, c2, ck0, w2, ix1, ld1, c3, c4, c5, w1]
    · right
      have hk' : k = 4 := by omega
      subst hk'
      refine ⟨.exit 0 [Z (.ptr s.size 0)], u, ?_, (fun v hv => by cases hv), .inl ⟨rfl, (agesOk_iff p).2 hok⟩, rfl⟩
      unfold f184_l1
      simp) 8192 4 [Z (.ptr s.size 0), .v (.agg [.int .i64 p.a0, .int .i64 p.a1, .int .i64 p.a2, .int .i64 p.a3]), I .i64 0] s1 ⟨0, rfl, rfl, rfl, fun j hj => by omega⟩ (by omega)
  subst hτ
  refine ⟨τ, ?_, g⟩
  have ix3 : aIndexArr 4 1 (Z (.ptr s.size 0)) (I .i64 3) = some (Z (.ptr s.size 3)) := rfl
  have ld3 := ld 3 (by omega)
  generalize (T.v (.agg [.int .i64 p.a0, .int .i64 p.a1, .int .i64 p.a2, .int .i64 p.a3])) = L at l4 lp
  rcases hj with ⟨rfl, ha⟩ | ⟨rfl, ha⟩
  · have hm : mayP p = (decide (p.a3 = 0) && decide (1 ≤ p.c) && decide (p.c ≤ 64) && decide (1 ≤ p.n) && decide (p.n ≤ 200)) := by simp [mayP, ha]
    rw [hm]
    by_cases d1 : p.a3 = 0
    · by_cases d2 : 1 ≤ p.c
      · by_cases d3 : p.c ≤ 64
        · by_cases d4 : 1 ≤ p.n
          · simp [nw, l4, lp, ix3, ld3, ld4, ld5, ageAt, d1, d2, d3, d4]
          · simp [nw, l4, lp, ix3, ld3, ld4, ld5, ageAt, d1, d2, d3, d4]
        · simp [nw, l4, lp, ix3, ld3, ld4, ld5, ageAt, d1, d2, d3]
      · simp [nw, l4, lp, ix3, ld3, ld4, ld5, ageAt, d1, d2]
    · simp [nw, l4, lp, ix3, ld3, ageAt, d1]
  · have hm : mayP p = false := by simp [mayP, ha]
    rw [hm]
    simp [nw, l4, lp]

/-! ### A line -/

def tNames : List Bs := [[114, 97, 119], [53, 109], [49, 104], [49, 100]]
def kKeep : Bs := [107, 101, 101, 112]
def kSeal : Bs := [115, 101, 97, 108]
def kSpan : Bs := [115, 112, 97, 110]
def kEver : Bs := [101, 118, 101, 114]

theorem names_run (d : Nat) (wf : s.wf) : ∃ x t, R (d + 1) 225 [] s = some (Z x, t) ∧ FT s t x tNames := by
  rw [f225_run]
  unfold f225
  refine ⟨.sl s.size 0 4 (.known 4), s.push (.cells true (strS tNames)), ?_, Fr.lit 1 wf rfl⟩
  simp [aNew, nSlice, aFill, V.cells, setRange, strS, tNames]

def setAge (p : Pol) (k : Int) (n : Int) : Pol :=
  if k = 0 then { p with a0 := n } else if k = 1 then { p with a1 := n } else if k = 2 then { p with a2 := n } else { p with a3 := n }

def lineP (p : Pol) (ws : List Bs) : Option Pol :=
  let last := ws.getD (ws.length - 1) []
  if ws.getD 0 [] = kKeep ∧ ws.length = 3 then
    if ixT (ws.getD 1 []) tNames 0 < 0 ∨ (numOk last = false ∧ ws.getD 2 [] ≠ kEver) then none else some (setAge p (ixT (ws.getD 1 []) tNames 0) (numV last))
  else if ws.getD 0 [] = kSeal ∧ ws.length = 2 ∧ numOk last = true then some { p with c := numV last }
  else if ws.getD 0 [] = kSpan ∧ ws.length = 2 ∧ numOk last = true then some { p with n := numV last }
  else none

def But (i : Nat) (s t : St) : Prop := t.wf ∧ s.size ≤ t.size ∧ ∀ b, b < s.size → b ≠ i → t.get b = s.get b
theorem Gr.but {s t : St} (h : Gr s t) (i : Nat) : But i s t := ⟨h.1, h.2.1, fun b hb _ => h.2.2 b hb⟩
theorem But.trans {i : Nat} {a b c : St} (h : But i a b) (k : But i b c) : But i a c := ⟨k.1, Nat.le_trans h.2.1 k.2.1, fun x hx hi => by rw [k.2.2 x (Nat.lt_of_lt_of_le hx h.2.1) hi, h.2.2 x hx hi]⟩
theorem But.set {i : Nat} {s : St} (wf : s.wf) (hi : i < s.size) (b : Blk) : But i s (s.set i b) := ⟨St.wf_set wf hi _, by simp, fun c hc hne => St.get_set_ne _ _ hne⟩

theorem set_age {p : Pol} {j : Nat} {n : Int} (hj : j < 4) : setRange (cP p) j [.int .i64 n] = cP (setAge p (j : Nat) n) := by
  match j, hj with
  | 0, _ => rfl
  | 1, _ => rfl
  | 2, _ => rfl
  | 3, _ => rfl

theorem line_run (d : Nat) (wf : s.wf) {p : Pol} {ws : List Bs} (hp : s.get i = some (.cells true (cP p))) (hx : RT s x ws) (hox : ∀ c, own x = some c → c < s.size ∧ c ≠ i) (hne : ws ≠ []) (hl : ws.length ≤ 100000) :
    ∃ t, R (d + 6) 182 [Z (.ptr i 0), Z x] s = some (B (lineP p ws).isSome, t) ∧ But i s t ∧ t.get i = some (.cells true (cP ((lineP p ws).getD p))) := by
  rw [f182_run]
  unfold f182
  have hi := wf.lt hp
  have hpos : 0 < ws.length := by
    cases ws with
    | nil => exact absurd rfl hne
    | cons _ _ => simp
  have at_ : ∀ (u : St), Gr s u → ∀ j : Nat, j < ws.length → ∃ q, aIndexSl 1 (Z x) (I .i64 (j : Nat)) = some q ∧ aLoad1 q u.get = some (Z (.str (ws.getD j []))) := fun u g j hj => by
    have hx' : RT u x ws := hx.gr (fun c hc => (hox c hc).1) g
    exact RT.atT hx' rfl (by simp [List.getD, hj])
  have fixp : ∀ (u v : St) j, j < ws.length → ∀ q, aIndexSl 1 (Z x) (I .i64 ((j : Nat) : Int)) = some q → Gr s u → aLoad1 q u.get = some (Z (.str (ws.getD j []))) := fun u v j hj q hq g => by
    obtain ⟨q', h1, h2⟩ := at_ u g j hj
    rw [hq] at h1
    cases h1
    exact h2
  have hlen := hx.lens
  have w1 : IntKind.i64.wrap ((ws.length : Int) - 1) = ((ws.length - 1 : Nat) : Int) := by rw [wrap_in _ (by omega) (by omega)]; omega
  obtain ⟨ql, ixl, ldl⟩ := at_ s (Gr.refl wf) (ws.length - 1) (by omega)
  obtain ⟨s1, e1, g1⟩ := number_run (l := ws.getD (ws.length - 1) []) d wf
  obtain ⟨last, hlast⟩ : ∃ last, last = ws.getD (ws.length - 1) [] := ⟨_, rfl⟩
  rw [← hlast] at ldl e1
  obtain ⟨q0, ix0, ld0⟩ := at_ s1 g1 0 hpos
  obtain ⟨w0, hw0⟩ : ∃ w, w = ws.getD 0 [] := ⟨_, rfl⟩
  rw [← hw0] at ld0
  have hp1 : s1.get i = some (.cells true (cP p)) := by rw [g1.2.2 i hi]; exact hp
  have hi1 : i < s1.size := Nat.lt_of_lt_of_le hi g1.2.1
  have hdef : lineP p ws = if w0 = kKeep ∧ ws.length = 3 then
    if ixT (ws.getD 1 []) tNames 0 < 0 ∨ (numOk last = false ∧ ws.getD 2 [] ≠ kEver) then none else some (setAge p (ixT (ws.getD 1 []) tNames 0) (numV last))
      else if w0 = kSeal ∧ ws.length = 2 ∧ numOk last = true then some { p with c := numV last }
      else if w0 = kSpan ∧ ws.length = 2 ∧ numOk last = true then some { p with n := numV last } else none := by rw [hw0, hlast]; rfl
  rw [hdef]
  have k1 : (Z (.str [107, 101, 101, 112]) : T) = Z (.str kKeep) := rfl
  have k2 : (Z (.str [115, 101, 97, 108]) : T) = Z (.str kSeal) := rfl
  have k3 : (Z (.str [115, 112, 97, 110]) : T) = Z (.str kSpan) := rfl
  have k4 : (Z (.str [101, 118, 101, 114]) : T) = Z (.str kEver) := rfl
  rw [k1, k2, k3, k4]
  have ix0' : aIndexSl 1 (Z x) (I .i64 0) = some q0 := ix0
  by_cases hk : w0 = kKeep ∧ ws.length = 3
  · rw [if_pos hk]
    obtain ⟨hk0, hk3⟩ := hk
    obtain ⟨y, s2, e2, f2⟩ := names_run (d + 4) g1.wf
    have g2 := g1.trans f2.gr
    obtain ⟨q1, ix1, ld1⟩ := at_ s2 g2 1 (by omega)
    have ld1' := fixp s1 s1 1 (by omega) q1 ix1 g1
    obtain ⟨q2, ix2, ld2⟩ := at_ s2 g2 2 (by omega)
    obtain ⟨w1', hw1⟩ : ∃ w, w = ws.getD 1 [] := ⟨_, rfl⟩
    obtain ⟨w2', hw2⟩ : ∃ w, w = ws.getD 2 [] := ⟨_, rfl⟩
    rw [← hw1] at ld1 ld1' ⊢
    rw [← hw2] at ld2 ⊢
    have e3 := indexT_run (v := w1') (d + 4) f2.rd (by decide)
    have ix1' : aIndexSl 1 (Z x) (I .i64 1) = some q1 := ix1
    have ix2' : aIndexSl 1 (Z x) (I .i64 2) = some q2 := ix2
    have hp2 : s2.get i = some (.cells true (cP p)) := by rw [f2.gr.2.2 i hi1]; exact hp1
    have c3 : (ws.length : Int) = 3 := by omega
    have ckk : decide (aLoad1 q1 s1.get = aLoad1 q1 s2.get) = true := decide_eq_true (by rw [ld1, ld1'])
    simp only [Nat.add_assoc, Nat.reduceAdd] at e2 e3
    generalize R (d + 5) = r at *
    rcases ixT_range w1' tNames 0 with hx1 | ⟨j, hj1, hj2, _⟩
    · rw [hx1] at e3 ⊢
      refine ⟨s2, ?_, Gr.but g2 i, by simp; exact hp2⟩
      generalize ((ws.length - 1 : Nat) : Int) = L1 at *
      have w1c : IntKind.i64.wrap 2 = L1 := by rw [c3] at w1; exact w1
      simp [hlen, w1c, ixl, ldl, e1, aExtract, ix0', ld0, hk0, c3, e2, ix1', ld1, ld1', e3, gtt]
    · rw [hj2] at e3 ⊢
      rw [Nat.zero_add] at e3 ⊢
      have c4 : ¬ ((j : Nat) : Int) < 0 := by omega
      have hj4 : j < 4 := hj1
      by_cases hbad : numOk last = false ∧ w2' ≠ kEver
      · rw [if_pos (.inr hbad)]
        refine ⟨s2, ?_, Gr.but g2 i, by simp; exact hp2⟩
        generalize ((ws.length - 1 : Nat) : Int) = L1 at *
        generalize ((j : Nat) : Int) = J at *
        have w1c : IntKind.i64.wrap 2 = L1 := by rw [c3] at w1; exact w1
        simp [hlen, w1c, ixl, ldl, e1, aExtract, ix0', ld0, hk0, c3, e2, ix1', ld1, ld1', e3, gtt, c4, hbad.1, ix2', ld2, hbad.2]
      · have hn : ¬ (((j : Nat) : Int) < 0 ∨ (numOk last = false ∧ w2' ≠ kEver)) := fun h => h.elim c4 hbad
        rw [if_neg hn]
        obtain ⟨s3, hs3⟩ : ∃ s3, s3 = s2.set i (.cells true (cP (setAge p (j : Nat) (numV last)))) := ⟨_, rfl⟩
        have ixa : aIndexArr 4 1 (Z (.ptr i 0)) (I .i64 (j : Nat)) = some (Z (.ptr i j)) := by
          match j, hj4 with
          | 0, _ => rfl
          | 1, _ => rfl
          | 2, _ => rfl
          | 3, _ => rfl
        have st := aStore1_of (σ := s2) (i := i) (o := j) (x := .int .i64 (numV last)) hp2 (by simp [cP]; omega)
        rw [set_age hj4, ← hs3] at st
        refine ⟨s3, ?_, (Gr.but g2 i).trans (by rw [hs3]; exact But.set (Gr.wf g2) (Nat.lt_of_lt_of_le hi g2.2.1) _), by rw [hs3]; exact St.get_set_same _ _ _⟩
        generalize ((ws.length - 1 : Nat) : Int) = L1 at *
        generalize ((j : Nat) : Int) = J at *
        have w1c : IntKind.i64.wrap 2 = L1 := by rw [c3] at w1; exact w1
        cases hno : numOk last with
        | true =>
          rw [hno] at e1
          simp [hlen, w1c, ixl, ldl, e1, aExtract, ix0', ld0, hk0, c3, e2, ix1', ld1, ld1', e3, gtt, c4, ixa, st]
        | false =>
          rw [hno] at e1
          have hev : w2' = kEver := by
            apply Classical.byContradiction
            intro h
            exact hbad ⟨hno, h⟩
          simp [hlen, w1c, ixl, ldl, e1, aExtract, ix0', ld0, hk0, c3, e2, ix1', ld1, ld1', e3, gtt, c4, ix2', ld2, hev, ixa, st]
  · rw [if_neg hk]
    have hkk : w0 = kKeep → ¬ (ws.length : Int) = 3 := fun h h2 => hk ⟨h, by omega⟩
    by_cases hs : w0 = kSeal ∧ ws.length = 2 ∧ numOk last = true
    · rw [if_pos hs]
      obtain ⟨a1, a2, a3⟩ := hs
      have c2 : (ws.length : Int) = 2 := by omega
      have n1 : ¬ kSeal = kKeep := by decide
      have st := aStore1_of (σ := s1) (i := i) (o := 4) (x := .int .i64 (numV last)) hp1 (by simp [cP])
      refine ⟨s1.set i (.cells true (cP { p with c := numV last })), ?_, (Gr.but g1 i).trans (But.set (Gr.wf g1) hi1 _), by simp⟩
      have hset : setRange (cP p) 4 [.int .i64 (numV last)] = cP { p with c := numV last } := rfl
      rw [hset] at st
      rw [a3] at e1
      generalize R (d + 5) = r at *
      generalize ((ws.length - 1 : Nat) : Int) = L1 at *
      have w1c : IntKind.i64.wrap 1 = L1 := by rw [c2] at w1; exact w1
      simp [hlen, w1c, ixl, ldl, e1, aExtract, ix0', ld0, a1, n1, c2, st]
    · rw [if_neg hs]
      by_cases hq : w0 = kSpan ∧ ws.length = 2 ∧ numOk last = true
      · rw [if_pos hq]
        obtain ⟨a1, a2, a3⟩ := hq
        have c2 : (ws.length : Int) = 2 := by omega
        have n1 : ¬ kSpan = kKeep := by decide
        have n2 : ¬ kSpan = kSeal := by decide
        have st := aStore1_of (σ := s1) (i := i) (o := 5) (x := .int .i64 (numV last)) hp1 (by simp [cP])
        refine ⟨s1.set i (.cells true (cP { p with n := numV last })), ?_, (Gr.but g1 i).trans (But.set (Gr.wf g1) hi1 _), by simp⟩
        have hset : setRange (cP p) 5 [.int .i64 (numV last)] = cP { p with n := numV last } := rfl
        rw [hset] at st
        rw [a3] at e1
        generalize R (d + 5) = r at *
        generalize ((ws.length - 1 : Nat) : Int) = L1 at *
        have w1c : IntKind.i64.wrap 1 = L1 := by rw [c2] at w1; exact w1
        simp [hlen, w1c, ixl, ldl, e1, aExtract, ix0', ld0, a1, n1, n2, c2, st]
      · rw [if_neg hq]
        refine ⟨s1, ?_, Gr.but g1 i, by simp; exact hp1⟩
        have hss : w0 = kSeal → (ws.length : Int) = 2 → numOk last = false := fun h h2 => by
          cases hn : numOk last with
          | false => rfl
          | true => exact absurd ⟨h, by omega, hn⟩ hs
        have hqq : w0 = kSpan → (ws.length : Int) = 2 → numOk last = false := fun h h2 => by
          cases hn : numOk last with
          | false => rfl
          | true => exact absurd ⟨h, by omega, hn⟩ hq
        generalize R (d + 5) = r at *
        generalize ((ws.length - 1 : Nat) : Int) = L1 at *
        have n1 : ¬ kSeal = kKeep := by decide
        have n2 : ¬ kSpan = kKeep := by decide
        have n3 : ¬ kSpan = kSeal := by decide
        have n4 : ¬ kSeal = kSpan := by decide
        have n5 : ¬ kKeep = kSpan := by decide
        have n6 : ¬ kKeep = kSeal := by decide
        by_cases b1 : w0 = kKeep
        · have c3 := hkk b1
          simp [hlen, w1, ixl, ldl, e1, aExtract, ix0', ld0, b1, c3, n5, n6]
        · by_cases b2 : w0 = kSeal
          · by_cases c2 : (ws.length : Int) = 2
            · have := hss b2 c2
              have w1c : IntKind.i64.wrap 1 = L1 := by rw [c2] at w1; exact w1
              simp [hlen, w1c, ixl, ldl, e1, aExtract, ix0', ld0, b2, n1, n4, c2, this]
            · simp [hlen, w1, ixl, ldl, e1, aExtract, ix0', ld0, b2, n1, n4, c2]
          · by_cases b3 : w0 = kSpan
            · by_cases c2 : (ws.length : Int) = 2
              · have := hqq b3 c2
                have w1c : IntKind.i64.wrap 1 = L1 := by rw [c2] at w1; exact w1
                simp [hlen, w1c, ixl, ldl, e1, aExtract, ix0', ld0, b3, n2, n3, c2, this]
              · simp [hlen, w1, ixl, ldl, e1, aExtract, ix0', ld0, b3, n2, n3, c2]
            · simp [hlen, w1, ixl, ldl, e1, aExtract, ix0', ld0, b1, b2, b3]
end
end Go.Proofs.YtbohejffelipoaaGreatDoor


/-
  What policy.Parse computes, in any store. No conditions but those named in each line.
-/
namespace Go.Proofs.YtbohejffelipoaaGreatDoor
open Go Go.Abs Go.Abs.F
set_option linter.unusedVariables false

def wordsOf (x : Bs) : List Bs := (splitB 32 (x.takeWhile fun b => !Nat.beq b.toNat (35 : UInt8).toNat)).filter fun w => !decide (w = [])

def parseGo : Pol → List Bs → Nat → List Bs → Pol × Int × Int
  | p, _, _, [] => if mayP p then (p, 0, 0) else (pol0, 5, 0)
  | p, seen, k, x :: r => if wordsOf x = [] then parseGo p seen (k + 1) r else
    match lineP p (wordsOf x) with
    | none => (pol0, 4, k + 1)
    | some p' => if joinB [32] (wordsOf x).dropLast ∈ seen then (pol0, 4, k + 1) else parseGo p' (seen ++ [joinB [32] (wordsOf x).dropLast]) (k + 1) r
def parseP (l : Bs) : Pol × Int × Int := parseGo polD [] 0 (splitB 10 l)

section
variable {s t : St} {x y : S} {l : Bs} {i : Nat}

theorem wordsOf_len (x : Bs) : (wordsOf x).length ≤ x.length + 1 := by
  unfold wordsOf
  refine Nat.le_trans (List.length_filter_le _ _) ?_
  rw [splitB_len]
  have h1 := cntB_le 32 (x.takeWhile fun b => !Nat.beq b.toNat (35 : UInt8).toNat)
  have h2 := (List.takeWhile_sublist (p := fun b : UInt8 => !Nat.beq b.toNat (35 : UInt8).toNat) (l := x)).length_le
  omega

theorem total_sublist : ∀ {a b : List Bs}, a.Sublist b → totalLen a ≤ totalLen b := by
  intro a b h
  induction h with
  | slnil => exact Nat.le_refl _
  | cons x _ ih => simp only [totalLen]; omega
  | cons_cons x _ ih => simp only [totalLen]; omega

theorem wordsOf_total (x : Bs) : totalLen (wordsOf x).dropLast ≤ x.length := by
  have h1 := total_sublist (List.dropLast_sublist (wordsOf x))
  have h2 := total_sublist (List.filter_sublist (l := splitB 32 (x.takeWhile fun b => !Nat.beq b.toNat (35 : UInt8).toNat)) (p := fun w => !decide (w = [])))
  have h3 : totalLen (splitB 32 (x.takeWhile fun b => !Nat.beq b.toNat (35 : UInt8).toNat)) ≤ (x.takeWhile fun b => !Nat.beq b.toNat (35 : UInt8).toNat).length := by rw [totalLen_sum]; exact splitB_sum _ _
  have h4 := (List.takeWhile_sublist (p := fun b : UInt8 => !Nat.beq b.toNat (35 : UInt8).toNat) (l := x)).length_le
  unfold wordsOf at h1 ⊢
  exact Nat.le_trans h1 (Nat.le_trans h2 (Nat.le_trans h3 h4))

theorem words_loop (r : CallF) (v0 v1 v2 v3 v5 v6 v7 : T) {ps : List Bs} (hx : RT s x ps) (hox : ∀ c, own x = some c → c < s.size) (wf : s.wf) (hl : ps.length ≤ 8001) :
    ∃ (y : S) (τ : St), loops (f137_l2 r 8192) 8192 [v0, v1, v2, v3, Z .nils, v5, v6, v7, Z x, I .i64 ps.length, I .i64 0] s = some (.exit 2 [v0, v1, v2, v3, Z y, v5, v6, v7], τ) ∧ FT s τ y (ps.filter fun w => !decide (w = [])) := by
  obtain ⟨j, τ, lp, y, rfl, hf⟩ := loops_inv (f := f137_l2 r 8192) (fun q v u => ∃ (k : Nat) (y : S), q + k = ps.length ∧ v = [v0, v1, v2, v3, Z y, v5, v6, v7, Z x, I .i64 ps.length, I .i64 k] ∧ FT s u y ((ps.take k).filter fun w => !decide (w = [])))
    (fun j u => ∃ y, j = .exit 2 [v0, v1, v2, v3, Z y, v5, v6, v7] ∧ FT s u y (ps.filter fun w => !decide (w = []))) (by
    rintro q v u ⟨k, y, hk, rfl, hf⟩
    by_cases hkl : k < ps.length
    · left
      have hc : ps[k]? = some ps[k] := List.getElem?_eq_getElem hkl
      have hx' : RT u x ps := hx.gr hox hf.gr
      obtain ⟨p, ix, ld⟩ := RT.atT hx' (n := (k : Int)) rfl hc
      have c0 : (k : Int) < (ps.length : Int) := by omega
      have w1 : IntKind.i64.wrap ((k : Int) + 1) = ((k + 1 : Nat) : Int) := by rw [wrap_in _ (by omega) (by omega)]; omega
      have htk : ps.take (k + 1) = ps.take k ++ [ps[k]] := by rw [List.take_add_one, hc]; rfl
      by_cases he : ps[k] = []
      · refine ⟨[v0, v1, v2, v3, Z y, v5, v6, v7, Z x, I .i64 ps.length, I .i64 ((k + 1 : Nat) : Int)], u, q - 1, ?_, by omega, k + 1, y, by omega, rfl, ?_⟩
        · unfold f137_l2
          rw [he] at ld
          generalize ((k + 1 : Nat) : Int) = K1 at w1 ⊢
          generalize (k : Int) = K at *
          simp [c0, ix, ld, w1]
        · rw [htk, List.filter_append, he]
          simpa using hf
      · have hlen : ((ps.take k).filter fun w => !decide (w = [])).length ≤ 1000000 := by
          refine Nat.le_trans (List.length_filter_le _ _) ?_
          rw [List.length_take]
          omega
        obtain ⟨y', t, ⟨s', nw, ap⟩, hf', _⟩ := FT.lit (c := ps[k]) hf hlen
        refine ⟨[v0, v1, v2, v3, Z y', v5, v6, v7, Z x, I .i64 ps.length, I .i64 ((k + 1 : Nat) : Int)], t, q - 1, ?_, by omega, k + 1, y', by omega, rfl, ?_⟩
        · unfold f137_l2
          generalize ((k + 1 : Nat) : Int) = K1 at w1 ⊢
          generalize (k : Int) = K at *
          simp [c0, ix, ld, he, nw, ap, w1]
        · rw [htk, List.filter_append]
          simpa [he] using hf'
    · right
      have hk' : k = ps.length := by omega
      subst hk'
      refine ⟨.exit 2 [v0, v1, v2, v3, Z y, v5, v6, v7], u, ?_, (fun v hv => by cases hv), y, rfl, by rwa [List.take_length] at hf⟩
      unfold f137_l2
      simp) 8192 ps.length [v0, v1, v2, v3, Z .nils, v5, v6, v7, Z x, I .i64 ps.length, I .i64 0] s ⟨0, .nils, by omega, rfl, by simpa [FT, strS] using Fr.nil 1 wf⟩ (by omega)
  exact ⟨y, τ, lp, hf⟩

theorem parse_run (d : Nat) (wf : s.wf) (hl : l.length ≤ 8000) : ∃ t, R (d + 7) 137 [Z (.str l)] s = some (.tup [.agg (cP (parseP l).1), .s (.int .i64 (parseP l).2.1), .s (.int .i64 (parseP l).2.2)], t) ∧ Gr s t := by
  rw [f137_run]
  unfold f137
  obtain ⟨s1, hs1⟩ : ∃ s1, s1 = s.push (.cells true (cP pol0)) := ⟨_, rfl⟩
  have g1 : Gr s s1 := by rw [hs1]; exact Gr.push wf _
  have z1 : s1.size = s.size + 1 := by rw [hs1]; rfl
  have hr1 : s1.get s.size = some (.cells true (cP pol0)) := by rw [hs1]; exact St.get_push_same _ _
  have nw1 : aNew s (nCells [.int .i64 0, .int .i64 0, .int .i64 0, .int .i64 0, .int .i64 0, .int .i64 0]) = some (Z (.ptr s.size 0), s1) := by rw [hs1]; rfl
  obtain ⟨s2, e2, g2⟩ := default_run (d + 5) g1.wf
  obtain ⟨s3, hs3⟩ : ∃ s3, s3 = s2.push (.cells true (cP pol0)) := ⟨_, rfl⟩
  have g3 : Gr s2 s3 := by rw [hs3]; exact Gr.push g2.wf _
  have nw3 : aNew s2 (nCells [.int .i64 0, .int .i64 0, .int .i64 0, .int .i64 0, .int .i64 0, .int .i64 0]) = some (Z (.ptr s2.size 0), s3) := by rw [hs3]; rfl
  have hp3 : s3.get s2.size = some (.cells true (cP pol0)) := by rw [hs3]; exact St.get_push_same _ _
  have z3 : s3.size = s2.size + 1 := by rw [hs3]; rfl
  obtain ⟨s4, hs4⟩ : ∃ s4, s4 = s3.set s2.size (.cells true (cP polD)) := ⟨_, rfl⟩
  have st4 := store6 (p := polD) hp3 rfl
  rw [← hs4] at st4
  have f4 : s4.wf := by rw [hs4]; exact St.wf_set g3.wf (by omega) _
  have z4 : s4.size = s2.size + 1 := by rw [hs4]; simpa using z3
  have hp4 : s4.get s2.size = some (.cells true (cP polD)) := by rw [hs4]; exact St.get_set_same _ _ _
  have old4 : ∀ b, b < s2.size → s4.get b = s2.get b := fun b hb => by rw [hs4, St.get_set_ne _ _ (by omega), g3.2.2 b hb]
  have hle2 : s.size + 1 ≤ s2.size := by have := g2.2.1; omega
  have hr4 : s4.get s.size = some (.cells true (cP pol0)) := by rw [old4 _ (by omega), g2.2.2 _ (by omega)]; exact hr1
  have olds4 : ∀ b, b < s.size → s4.get b = s.get b := fun b hb => by rw [old4 b (by omega), g2.2.2 b (by omega), g1.2.2 b hb]
  obtain ⟨x, s5, e5, f5⟩ := split_run (l := l) (c := 10) (d + 3) f4 hl
  obtain ⟨ps, hps⟩ : ∃ ps, ps = splitB 10 l := ⟨_, rfl⟩
  rw [← hps] at f5
  have hcount : ps.length ≤ 8001 := by rw [hps, splitB_len]; have := cntB_le 10 l; omega
  have hmem : ∀ w ∈ ps, w.length ≤ 8000 := fun w hw => by have := splitB_mem 10 l w (by rw [← hps]; exact hw); omega
  have hresult : parseP l = parseGo polD [] 0 ps := by rw [hps]; rfl
  rw [hresult]
  obtain ⟨rp, hrp⟩ : ∃ rp, rp = s.size := ⟨_, rfl⟩
  obtain ⟨pp, hpp⟩ : ∃ pp, pp = s2.size := ⟨_, rfl⟩
  rw [← hrp] at nw1 hr4
  rw [← hpp] at nw3 st4 hp4
  obtain ⟨j, τ, lp, hj⟩ := loops_inv (f := f137_l1 (R (d + 6)) 8192)
    (fun q v u => ∃ (k : Nat) (p : Pol) (y : S) (seen : List Bs), q + k = ps.length ∧ v = [Z (.ptr rp 0), Z (.ptr pp 0), Z y, Z x, I .i64 ps.length, I .i64 k] ∧ u.wf ∧ s5.size ≤ u.size ∧ u.get rp = some (.cells true (cP pol0)) ∧ u.get pp = some (.cells true (cP p)) ∧
      (∀ b, b < s5.size → b ≠ pp → u.get b = s5.get b) ∧ Ow 1 u y seen.length (strS seen) ∧ (∀ c, own y = some c → s5.size ≤ c ∧ c < u.size) ∧ seen.length ≤ k ∧ parseGo p seen k (ps.drop k) = parseGo polD [] 0 ps)
    (fun j u => u.wf ∧ s5.size ≤ u.size ∧ (∀ b, b < s5.size → b ≠ pp → b ≠ rp → u.get b = s5.get b) ∧
      ((∃ p, j = .exit 0 [Z (.ptr rp 0), Z (.ptr pp 0)] ∧ u.get rp = some (.cells true (cP pol0)) ∧ u.get pp = some (.cells true (cP p)) ∧ parseGo polD [] 0 ps = if mayP p then (p, 0, 0) else (pol0, 5, 0)) ∨
       ∃ k : Nat, j = .ret (.tup [.agg (cP pol0), .s (.int .i64 4), .s (.int .i64 ((k + 1 : Nat) : Int))]) ∧ parseGo polD [] 0 ps = (pol0, 4, (k : Int) + 1))) (by
    rintro q v u ⟨k, p, y, seen, hk, rfl, wfu, hzu, hru, hpu, hou, hy, hyo, hsl, hgo⟩
    have hne : rp ≠ pp := by omega
    have hrp5 : rp < s5.size := by have := f5.gr.2.1; omega
    have hpp5 : pp < s5.size := by have := f5.gr.2.1; omega
    by_cases hkl : k < ps.length
    · have hc : ps[k]? = some ps[k] := List.getElem?_eq_getElem hkl
      have hdr : ps.drop k = ps[k] :: ps.drop (k + 1) := List.drop_eq_getElem_cons hkl
      obtain ⟨w, hw⟩ : ∃ w, w = ps[k] := ⟨_, rfl⟩
      rw [← hw] at hc hdr
      rw [hdr] at hgo
      have hwl : w.length ≤ 8000 := hmem w (List.mem_of_getElem? hc)
      have hx' : RT u x ps := f5.rd.keep fun c hc' => hou c (f5.new c hc').2 (by have := (f5.new c hc').1; omega)
      obtain ⟨pi, ix, ld⟩ := RT.atT hx' (n := (k : Int)) rfl hc
      have c0 : (k : Int) < (ps.length : Int) := by omega
      have w1 : IntKind.i64.wrap ((k : Int) + 1) = ((k + 1 : Nat) : Int) := by rw [wrap_in _ (by omega) (by omega)]; omega
      have ec := cut_run (s := u) (l := w) (c := 35) (d + 3) (by omega)
      obtain ⟨cw, hcw⟩ : ∃ cw, cw = w.takeWhile fun b => !Nat.beq b.toNat (35 : UInt8).toNat := ⟨_, rfl⟩
      rw [← hcw] at ec
      have hcl : cw.length ≤ w.length := by rw [hcw]; exact (List.takeWhile_sublist _).length_le
      obtain ⟨x2, u2, es, fs⟩ := split_run (l := cw) (c := 32) (d + 3) wfu (by omega)
      have hl2 : (splitB 32 cw).length ≤ 8001 := by rw [splitB_len]; have := cntB_le 32 cw; omega
      have hl2' := fs.rd.lens
      obtain ⟨y3, u3, lp2, f3⟩ := words_loop (R (d + 6)) (Z (.ptr rp 0)) (Z (.ptr pp 0)) (Z y) (I .i64 k) (Z x) (I .i64 ps.length) (I .i64 k) fs.rd (fun c hc' => (fs.new c hc').2) fs.gr.wf hl2
      have hws : ((splitB 32 cw).filter fun w => !decide (w = [])) = wordsOf w := by rw [hcw]; rfl
      rw [hws] at f3
      have g23 : Gr u u3 := fs.gr.trans f3.gr
      have hru3 : u3.get rp = some (.cells true (cP pol0)) := by rw [g23.2.2 rp (by omega)]; exact hru
      have hpu3 : u3.get pp = some (.cells true (cP p)) := by rw [g23.2.2 pp (by omega)]; exact hpu
      have hou3 : ∀ b, b < s5.size → b ≠ pp → u3.get b = s5.get b := fun b hb hb2 => by rw [g23.2.2 b (by omega)]; exact hou b hb hb2
      have hy3 : Ow 1 u3 y seen.length (strS seen) := hy.gr wfu g23
      have hyo3 : ∀ c, own y = some c → s5.size ≤ c ∧ c < u3.size := fun c hc' => ⟨(hyo c hc').1, Nat.lt_of_lt_of_le (hyo c hc').2 g23.2.1⟩
      have hz3 : s5.size ≤ u3.size := Nat.le_trans hzu g23.2.1
      have hl3 := f3.rd.lens
      simp only [Nat.add_assoc, Nat.reduceAdd] at ec es lp2
      by_cases hnil : wordsOf w = []
      · left
        rw [hnil] at hl3
        refine ⟨[Z (.ptr rp 0), Z (.ptr pp 0), Z y, Z x, I .i64 ps.length, I .i64 ((k + 1 : Nat) : Int)], u3, q - 1, ?_, by omega, k + 1, p, y, seen, by omega, rfl, g23.wf, hz3, hru3, hpu3, hou3, hy3, hyo3, by omega, ?_⟩
        · unfold f137_l1
          generalize R (d + 6) = r at *
          generalize ((k + 1 : Nat) : Int) = K1 at w1 ⊢
          generalize (k : Int) = K at *
          generalize ((splitB 32 cw).length : Int) = SL at *
          simp [c0, ix, ld, ec, aExtract, es, hl2', lp2, hl3, w1]
        · rw [← hgo]
          show _ = (if wordsOf w = [] then _ else _)
          rw [if_pos hnil]
      · -- a line that says something
        obtain ⟨n, hn⟩ : ∃ n, (wordsOf w).length = n + 1 := by
          cases hq : wordsOf w with
          | nil => exact absurd hq hnil
          | cons a b => exact ⟨b.length, rfl⟩
        have hwn : (wordsOf w).length ≤ 8001 := Nat.le_trans (wordsOf_len w) (by omega)
        rw [hn] at hl3
        have cl : ¬ (((n + 1 : Nat) : Int) = 0) := by omega
        have wl : IntKind.i64.wrap (((n + 1 : Nat) : Int) - 1) = ((n : Nat) : Int) := by rw [wrap_in _ (by omega) (by omega)]; omega
        obtain ⟨y4, pc, rd4, own4⟩ := f3.rd.upto (hi := n) (by omega)
        have htk : (strS (wordsOf w)).take (n * 1) = strS (wordsOf w).dropLast := by rw [Nat.mul_one, strS_take, List.dropLast_eq_take, hn, Nat.add_sub_cancel]
        have hdl : (wordsOf w).dropLast.length = n := by rw [List.length_dropLast, hn, Nat.add_sub_cancel]
        rw [htk] at rd4
        have rd4' : RT u3 y4 (wordsOf w).dropLast := by unfold RT; rw [hdl]; exact rd4
        have ej : R (d + 6) 181 [Z y4, Z (.str [32])] u3 = some (Z (.str (joinB [32] (wordsOf w).dropLast)), u3) := runQ_prim (prim_join rd4' (by have := wordsOf_total w; simp; omega) (by omega))
        obtain ⟨said, hsaid⟩ : ∃ said, said = joinB [32] (wordsOf w).dropLast := ⟨_, rfl⟩
        rw [← hsaid] at ej
        have hrdw : RT u3 y3 (wordsOf w) := f3.rd
        obtain ⟨u4, e4, b4, hp4'⟩ := line_run (i := pp) d g23.wf (ws := wordsOf w) hpu3 hrdw (fun c hc' => ⟨(f3.new c hc').2, by have := (f3.new c hc').1; have := fs.gr.2.1; omega⟩) hnil (by omega)
        have hz4 : s5.size ≤ u4.size := Nat.le_trans hz3 b4.2.1
        have hru4 : u4.get rp = some (.cells true (cP pol0)) := by rw [b4.2.2 rp (by omega) hne]; exact hru3
        have hou4 : ∀ b, b < s5.size → b ≠ pp → u4.get b = s5.get b := fun b hb hb2 => by rw [b4.2.2 b (by omega) hb2]; exact hou3 b hb hb2
        have hy4 : Ow 1 u4 y seen.length (strS seen) := hy3.keep fun c hc' => b4.2.2 c (hyo3 c hc').2 (by have := (hyo3 c hc').1; omega)
        have hyo4 : ∀ c, own y = some c → s5.size ≤ c ∧ c < u4.size := fun c hc' => ⟨(hyo3 c hc').1, Nat.lt_of_lt_of_le (hyo3 c hc').2 b4.2.1⟩
        have econ := containsT_run (s := u4) (x := y) (ws := seen) (v := said) (d + 4) hy4.rd (by omega)
        have hgo2 : (match lineP p (wordsOf w) with
          | none => (pol0, 4, (k : Int) + 1)
          | some p' => if said ∈ seen then (pol0, 4, (k : Int) + 1) else parseGo p' (seen ++ [said]) (k + 1) (ps.drop (k + 1))) = parseGo polD [] 0 ps := by
          rw [← hgo]
          show _ = (if wordsOf w = [] then _ else _)
          rw [if_neg hnil, hsaid]
        have store_r : ∀ u' : St, u'.get rp = some (.cells true (cP pol0)) → aStore 6 (Z (.ptr rp 0)) (AP pol0) u' = some (tt, u'.set rp (.cells true (cP pol0))) := fun u' h => store6 h rfl
        have load_r : ∀ u' : St, aLoadN 6 (Z (.ptr rp 0)) (u'.set rp (.cells true (cP pol0))).get = some (AP pol0) := fun u' => load6 (St.get_set_same _ _ _)
        simp only [Nat.add_assoc, Nat.reduceAdd] at e4 econ
        cases hlp : lineP p (wordsOf w) with
        | none =>
          right
          rw [hlp] at e4 hgo2
          simp only [Option.isSome_none] at e4
          refine ⟨.ret (.tup [.agg (cP pol0), .s (.int .i64 4), .s (.int .i64 ((k + 1 : Nat) : Int))]), u4.set rp (.cells true (cP pol0)), ?_, (fun v hv => by cases hv), St.wf_set b4.1 (by omega) _, by simpa using hz4, fun b hb h1 h2 => by rw [St.get_set_ne _ _ h2]; exact hou4 b hb h1, .inr ⟨k, rfl, hgo2.symm⟩⟩
          unfold f137_l1
          have sr := store_r u4 hru4
          have lr := load_r u4
          generalize u4.set rp (.cells true (cP pol0)) = u5 at *
          generalize R (d + 6) = r at *
          generalize ((k + 1 : Nat) : Int) = K1 at w1 ⊢
          generalize (k : Int) = K at *
          generalize ((splitB 32 cw).length : Int) = SL at *
          generalize ((n + 1 : Nat) : Int) = N1 at *
          generalize ((n : Nat) : Int) = N0 at *
          simp [c0, ix, ld, ec, aExtract, es, hl2', lp2, hl3, cl, wl, pc, ej, e4, gtt, agg6, sr, lr, w1, rC, rT, retT, allV]
        | some p' =>
          rw [hlp] at e4 hgo2 hp4'
          simp only [Option.isSome_some] at e4
          by_cases hin : said ∈ seen
          · right
            simp only [if_pos hin] at hgo2
            rw [decide_eq_true hin] at econ
            refine ⟨.ret (.tup [.agg (cP pol0), .s (.int .i64 4), .s (.int .i64 ((k + 1 : Nat) : Int))]), u4.set rp (.cells true (cP pol0)), ?_, (fun v hv => by cases hv), St.wf_set b4.1 (by omega) _, by simpa using hz4, fun b hb h1 h2 => by rw [St.get_set_ne _ _ h2]; exact hou4 b hb h1, .inr ⟨k, rfl, hgo2.symm⟩⟩
            unfold f137_l1
            have sr := store_r u4 hru4
            have lr := load_r u4
            generalize u4.set rp (.cells true (cP pol0)) = u5 at *
            generalize R (d + 6) = r at *
            generalize ((k + 1 : Nat) : Int) = K1 at w1 ⊢
            generalize (k : Int) = K at *
            generalize ((splitB 32 cw).length : Int) = SL at *
            generalize ((n + 1 : Nat) : Int) = N1 at *
            generalize ((n : Nat) : Int) = N0 at *
            simp [c0, ix, ld, ec, aExtract, es, hl2', lp2, hl3, cl, wl, pc, ej, e4, econ, agg6, sr, lr, w1, rC, rT, retT, allV]
          · left
            simp only [if_neg hin] at hgo2
            rw [decide_eq_false hin] at econ
            have hfr : Fr 1 u4 u4 y seen.length (strS seen) → True := fun _ => trivial
            have L := Fr.lit 1 b4.1 (n := 1) (vs := strS [said]) (by simp)
            obtain ⟨y5, u5, ap, wf5, z5, ow5, old5, new5⟩ := (hy4.gr b4.1 L.gr).append (by_ := 16) L.gr.wf (by omega) L.rd.src (by simp) (by omega)
            have nw : aNew u4 (nSlice 1 (aFill [.str []] [(0, 1, Z (.str said))])) = some (Z (.sl u4.size 0 1 (.known 1)), u4.push (.cells true (strS [said]))) := by simp [aNew, nSlice, aFill, V.cells, setRange, strS]
            have zl : u4.size < (u4.push (.cells true (strS [said]))).size := by simp
            have keep5 : ∀ b, b < s5.size → u5.get b = u4.get b := fun b hb => by
              rw [old5 b (by omega) (fun e => by have := (hyo4 b e).1; omega), L.gr.2.2 b (by omega)]
            refine ⟨[Z (.ptr rp 0), Z (.ptr pp 0), Z y5, Z x, I .i64 ps.length, I .i64 ((k + 1 : Nat) : Int)], u5, q - 1, ?_, by omega, k + 1, p', y5, seen ++ [said], by omega, rfl, wf5, by omega, by rw [keep5 rp hrp5]; exact hru4, by rw [keep5 pp hpp5]; exact hp4',
              fun b hb h1 => by rw [keep5 b hb]; exact hou4 b hb h1, by rw [strS_append, List.length_append]; exact ow5, fun c hc' => ?_, by simp; omega, by rw [hgo2]⟩
            · unfold f137_l1
              generalize u4.push (.cells true (strS [said])) = u6 at *
              generalize R (d + 6) = r at *
              generalize ((k + 1 : Nat) : Int) = K1 at w1 ⊢
              generalize (k : Int) = K at *
              generalize ((splitB 32 cw).length : Int) = SL at *
              generalize ((n + 1 : Nat) : Int) = N1 at *
              generalize ((n : Nat) : Int) = N0 at *
              simp [c0, ix, ld, ec, aExtract, es, hl2', lp2, hl3, cl, wl, pc, ej, e4, econ, nw, ap, w1]
            · have hlt := ow5.lt wf5 hc'
              rcases new5 with e | e | ⟨c', e, hc2⟩
              · rw [e] at hc'; cases hc'
              · rw [e] at hc'; exact ⟨(hyo4 c hc').1, hlt⟩
              · rw [e] at hc'; cases hc'; exact ⟨by omega, hlt⟩
    · right
      have hk' : k = ps.length := by omega
      refine ⟨.exit 0 [Z (.ptr rp 0), Z (.ptr pp 0)], u, ?_, (fun v hv => by cases hv), wfu, hzu, fun b hb h1 h2 => hou b hb h1, .inl ⟨p, rfl, hru, hpu, ?_⟩⟩
      · have c0 : ¬ (k : Int) < (ps.length : Int) := by omega
        unfold f137_l1
        simp [c0]
      · rw [← hgo, List.drop_eq_nil_of_le (by omega)]
        rfl) 8192 ps.length [Z (.ptr rp 0), Z (.ptr pp 0), Z .nils, Z x, I .i64 ps.length, I .i64 0] s5
    ⟨0, polD, .nils, [], by omega, rfl, f5.gr.wf, Nat.le_refl _, by rw [f5.gr.2.2 rp (by omega)]; exact hr4, by rw [f5.gr.2.2 pp (by omega)]; exact hp4, fun b hb h1 => rfl, by simpa [strS] using Ow.nil 1 s5, (fun c hc => by cases hc), by simp, rfl⟩ (by omega)
  have hlen5 := f5.rd.lens
  simp only [Nat.add_assoc, Nat.reduceAdd] at e2 e5
  obtain ⟨wfτ, zτ, oldτ, hcase⟩ := hj
  have h45 := f5.gr.2.1
  have oldsτ : ∀ b, b < s.size → τ.get b = s.get b := fun b hb => by rw [oldτ b (by omega) (by omega) (by omega), f5.gr.2.2 b (by omega)]; exact olds4 b hb
  rcases hcase with ⟨p, rfl, hrτ, hpτ, hres⟩ | ⟨k, rfl, hres⟩
  · have lp6 := load6 (g := τ.get) hpτ
    obtain ⟨s6, em, g6⟩ := may_run (d + 5) wfτ p
    have hr6 : s6.get rp = some (.cells true (cP pol0)) := by rw [g6.2.2 rp (by omega)]; exact hrτ
    have hp6 : s6.get pp = some (.cells true (cP p)) := by rw [g6.2.2 pp (by omega)]; exact hpτ
    have ld6 := load6 (g := s6.get) hp6
    have olds6 : ∀ b, b < s.size → s6.get b = s.get b := fun b hb => by rw [g6.2.2 b (by omega)]; exact oldsτ b hb
    have hsz : s.size ≤ s6.size := by have := g6.2.1; omega
    have hrp6 : rp < s6.size := by have := g6.2.1; omega
    cases hm : mayP p with
    | true =>
      rw [hm] at em hres
      rw [hres]
      have st6 := store6 (p := p) hr6 rfl
      obtain ⟨s7, hs7⟩ : ∃ s7, s7 = s6.set rp (.cells true (cP p)) := ⟨_, rfl⟩
      rw [← hs7] at st6
      have ld7 : aLoadN 6 (Z (.ptr rp 0)) s7.get = some (AP p) := load6 (by rw [hs7]; exact St.get_set_same _ _ _)
      refine ⟨s7, ?_, by rw [hs7]; exact St.wf_set g6.wf (by omega) _, by rw [hs7]; simpa using hsz, fun b hb => by rw [hs7, St.get_set_ne _ _ (by omega)]; exact olds6 b hb⟩
      generalize R (d + 6) = r at *
      generalize (ps.length : Int) = PL at *
      simp [nw1, e2, nw3, st4, e5, hlen5, lp, lp6, em, ld6, st6, ld7, rC, rT, retT, allV]
    | false =>
      rw [hm] at em hres
      rw [hres]
      have st6 := store6 (p := pol0) hr6 rfl
      obtain ⟨s7, hs7⟩ : ∃ s7, s7 = s6.set rp (.cells true (cP pol0)) := ⟨_, rfl⟩
      rw [← hs7] at st6
      have ld7 : aLoadN 6 (Z (.ptr rp 0)) s7.get = some (AP pol0) := load6 (by rw [hs7]; exact St.get_set_same _ _ _)
      refine ⟨s7, ?_, by rw [hs7]; exact St.wf_set g6.wf (by omega) _, by rw [hs7]; simpa using hsz, fun b hb => by rw [hs7, St.get_set_ne _ _ (by omega)]; exact olds6 b hb⟩
      generalize R (d + 6) = r at *
      generalize (ps.length : Int) = PL at *
      simp [nw1, e2, nw3, st4, e5, hlen5, lp, lp6, em, agg6, st6, ld7, rC, rT, retT, allV]
  · rw [hres]
    refine ⟨τ, ?_, wfτ, by omega, oldsτ⟩
    generalize R (d + 6) = r at *
    generalize (ps.length : Int) = PL at *
    have hk1 : ((k + 1 : Nat) : Int) = (k : Int) + 1 := by omega
    rw [hk1] at lp
    simp [nw1, e2, nw3, st4, e5, hlen5, lp]
end
end Go.Proofs.YtbohejffelipoaaGreatDoor


/-
  Numbers' bytes, sums and comparisons of bytes: what the functions compute, in any store. No conditions but those named in each line.
-/
namespace Go.Proofs.YtbohejffelipoaaGreatDoor
open Go Go.Abs Go.Abs.F
set_option linter.unusedVariables false
section
variable {s t : St} {x y : S} {bs cs : List UInt8}

def vjo (at_ : Nat) : Option (Nat × Nat) → JO
  | some (n, e) => .ret (.tup [.s (.int .u64 n), .s (.int .i64 e), .s (.int .i64 0)])
  | none => .exit 0 [I .i64 at_]

theorem getN_run (r : CallF) (N : Nat) (h : RB s x bs) (hl : bs.length ≤ 100000) {at_ : Nat} (ha : at_ ≤ 100000) (res : Option (Nat × Nat)) (hres : getN bs at_ 10 0 0 = res) :
    loops (f118_l1 r N) 8192 [Z x, I .i64 at_, I .u64 0, I .i64 0] s = some (vjo at_ res, s) := by
  obtain ⟨j, τ, lp, hj, hτ⟩ := loops_inv (f := f118_l1 r N) (fun q v u => ∃ k n : Nat, q + k = 10 ∧ v = [Z x, I .i64 at_, I .u64 n, I .i64 k] ∧ u = s ∧ n < 2 ^ 64 ∧ getN bs at_ q k n = res)
    (fun j u => j = vjo at_ res ∧ u = s) (by
    rintro q v u ⟨k, n, hk, rfl, rfl, hn, hg⟩
    have hll := h.lenB
    cases q with
    | zero =>
      right
      have hk' : k = 10 := by omega
      subst hk'
      have : res = none := by rw [← hg]; rfl
      subst this
      refine ⟨.exit 0 [I .i64 at_], u, ?_, (fun v hv => by cases hv), rfl, rfl⟩
      unfold f118_l1
      simp
    | succ q =>
      have c0 : (k : Int) < 10 := by omega
      have w0 : IntKind.i64.wrap ((at_ : Int) + k) = ((at_ + k : Nat) : Int) := by rw [wrap_in _ (by omega) (by omega)]; omega
      unfold getN at hg
      cases hc : bs[at_ + k]? with
      | none =>
        rw [hc] at hg
        subst hg
        right
        have hle : bs.length ≤ at_ + k := by simpa using hc
        have c1 : (bs.length : Int) ≤ ((at_ + k : Nat) : Int) := by omega
        refine ⟨.exit 0 [I .i64 at_], u, ?_, (fun v hv => by cases hv), rfl, rfl⟩
        unfold f118_l1
        generalize ((at_ + k : Nat) : Int) = A at w0 c1 ⊢
        simp [c0, w0, hll, c1]
      | some c =>
        rw [hc] at hg
        simp only at hg
        have hlt := (List.getElem?_eq_some_iff.1 hc).1
        have c1 : ¬ (bs.length : Int) ≤ ((at_ + k : Nat) : Int) := by omega
        obtain ⟨p, ix, ld⟩ := h.atB (n := ((at_ + k : Nat) : Int)) rfl hc
        have hcb : c.toNat < 256 := c.toNat_lt
        have hand : aBin .and (I .u8 c.toNat) (I .u8 127) = some (I .u8 (c.toNat % 128 : Nat)) := by
          have := and_u8 c.toNat 127 hcb (by decide)
          rw [show (c.toNat &&& 127 : Nat) = c.toNat % 128 from Nat.and_two_pow_sub_one_eq_mod c.toNat 7] at this
          exact this
        have hconv : IntKind.u64.wrap ((c.toNat % 128 : Nat) : Int) = ((c.toNat % 128 : Nat) : Int) := wrap64 _ (by omega)
        have hm7 : IntKind.i64.wrap (7 * (k : Int)) = ((7 * k : Nat) : Int) := by rw [wrap_in _ (by omega) (by omega)]; omega
        have hm8 : IntKind.u64.wrap ((7 * k : Nat) : Int) = ((7 * k : Nat) : Int) := wrap64 _ (by omega)
        have w1 : IntKind.i64.wrap ((k : Int) + 1) = ((k + 1 : Nat) : Int) := by rw [wrap_in _ (by omega) (by omega)]; omega
        have w2 : IntKind.i64.wrap (((at_ + k : Nat) : Int) + 1) = ((at_ + k + 1 : Nat) : Int) := by rw [wrap_in _ (by omega) (by omega)]; omega
        by_cases h9 : k = 9 ∧ 1 < c.toNat
        · rw [if_pos h9] at hg
          subst hg
          right
          have d9 : ((k : Int) = 9) = True := eq_true (by omega)
          have d1 : ((1 : Int) < (c.toNat : Int)) = True := eq_true (by omega)
          refine ⟨.exit 0 [I .i64 at_], u, ?_, (fun v hv => by cases hv), rfl, rfl⟩
          unfold f118_l1
          generalize ((at_ + k : Nat) : Int) = A at w0 c1 ix ⊢
          generalize (k : Int) = K at *
          generalize (c.toNat : Int) = C at *
          simp [c0, w0, hll, c1, ix, ld, d9, d1]
        · rw [if_neg h9] at hg
          have hpow : c.toNat % 128 * 2 ^ (7 * k) < 2 ^ 64 := by
            by_cases e9 : k = 9
            · subst e9
              have : c.toNat % 128 ≤ 1 := by omega
              calc c.toNat % 128 * 2 ^ (7 * 9) ≤ 1 * 2 ^ 63 := Nat.mul_le_mul_right _ this
                _ < 2 ^ 64 := by decide
            · have hk8 : 7 * k ≤ 56 := by omega
              have h128 : c.toNat % 128 < 2 ^ 7 := by omega
              calc c.toNat % 128 * 2 ^ (7 * k) ≤ c.toNat % 128 * 2 ^ 56 := Nat.mul_le_mul_left _ (Nat.pow_le_pow_right (by omega) hk8)
                _ < 2 ^ 64 := by omega
          have hshl := shl_u64 (c.toNat % 128) (7 * k) hpow (by omega)
          have hor := or_u64 n (c.toNat % 128 * 2 ^ (7 * k)) hn hpow
          have hn' : (n ||| c.toNat % 128 * 2 ^ (7 * k)) < 2 ^ 64 := Nat.or_lt_two_pow hn hpow
          obtain ⟨M, hM⟩ : ∃ M, M = (n ||| c.toNat % 128 * 2 ^ (7 * k)) := ⟨_, rfl⟩
          rw [← hM] at hor hn' hg
          have hcase : ((k : Int) = 9) = False ∨ (((k : Int) = 9) = True ∧ ((1 : Int) < (c.toNat : Int)) = False) := by
            by_cases e9 : k = 9
            · exact .inr ⟨eq_true (by omega), eq_false (fun h => h9 ⟨e9, by omega⟩)⟩
            · exact .inl (eq_false (by omega))
          by_cases h128 : 128 ≤ c.toNat
          · rw [if_pos h128] at hg
            left
            have d1 : ((128 : Int) ≤ (c.toNat : Int)) = True := eq_true (by omega)
            refine ⟨[Z x, I .i64 at_, I .u64 M, I .i64 ((k + 1 : Nat) : Int)], u, q, ?_, rfl, k + 1, M, by omega, rfl, rfl, hn', hg⟩
            generalize ((k + 1 : Nat) : Int) = K1 at w1 ⊢
            unfold f118_l1
            generalize ((c.toNat % 128 * 2 ^ (7 * k) : Nat) : Int) = SH at hshl hor
            generalize ((c.toNat % 128 : Nat) : Int) = L at hand hconv hshl
            generalize ((7 * k : Nat) : Int) = K7 at hm7 hm8 hshl
            generalize ((at_ + k : Nat) : Int) = A at w0 c1 ix
            generalize (k : Int) = K at *
            generalize (c.toNat : Int) = C at *
            rcases hcase with e9 | ⟨e9, e1⟩
            · simp [c0, w0, hll, c1, ix, ld, e9, hand, hconv, hm7, hm8, hshl, hor, d1, w1]
            · simp [c0, w0, hll, c1, ix, ld, e9, e1, hand, hconv, hm7, hm8, hshl, hor, d1, w1]
          · rw [if_neg h128] at hg
            right
            have d1 : ((128 : Int) ≤ (c.toNat : Int)) = False := eq_false (by omega)
            by_cases hz : 0 < k ∧ c.toNat = 0
            · rw [if_pos hz] at hg
              subst hg
              have d2 : ((0 : Int) < (k : Int)) = True := eq_true (by omega)
              have d3 : ((c.toNat : Int) = 0) = True := eq_true (by omega)
              refine ⟨.exit 0 [I .i64 at_], u, ?_, (fun v hv => by cases hv), rfl, rfl⟩
              unfold f118_l1
              generalize ((c.toNat % 128 * 2 ^ (7 * k) : Nat) : Int) = SH at hshl hor
              generalize ((c.toNat % 128 : Nat) : Int) = L at hand hconv hshl
              generalize ((7 * k : Nat) : Int) = K7 at hm7 hm8 hshl
              generalize ((at_ + k : Nat) : Int) = A at w0 c1 ix
              generalize (k : Int) = K at *
              generalize (c.toNat : Int) = C at *
              rcases hcase with e9 | ⟨e9, e1⟩
              · simp [c0, w0, hll, c1, ix, ld, e9, hand, hconv, hm7, hm8, hshl, hor, d1, d2, d3]
              · simp [c0, w0, hll, c1, ix, ld, e9, e1, hand, hconv, hm7, hm8, hshl, hor, d1, d2, d3]
            · rw [if_neg hz] at hg
              subst hg
              refine ⟨.ret (.tup [.s (.int .u64 M), .s (.int .i64 ((at_ + k + 1 : Nat) : Int)), .s (.int .i64 0)]), u, ?_, (fun v hv => by cases hv), rfl, rfl⟩
              have hcase2 : ((0 : Int) < (k : Int)) = False ∨ (((0 : Int) < (k : Int)) = True ∧ ((c.toNat : Int) = 0) = False) := by
                by_cases e0 : 0 < k
                · exact .inr ⟨eq_true (by omega), eq_false (fun h => hz ⟨e0, by omega⟩)⟩
                · exact .inl (eq_false (by omega))
              unfold f118_l1
              generalize ((c.toNat % 128 * 2 ^ (7 * k) : Nat) : Int) = SH at hshl hor
              generalize ((c.toNat % 128 : Nat) : Int) = L at hand hconv hshl
              generalize ((7 * k : Nat) : Int) = K7 at hm7 hm8 hshl
              generalize ((at_ + k + 1 : Nat) : Int) = A1 at w2 ⊢
              generalize ((at_ + k : Nat) : Int) = A at w0 w2 c1 ix
              generalize (k : Int) = K at *
              generalize (c.toNat : Int) = C at *
              rcases hcase with e9 | ⟨e9, e1⟩ <;> rcases hcase2 with d2 | ⟨d2, d3⟩
              · simp [c0, w0, hll, c1, ix, ld, e9, hand, hconv, hm7, hm8, hshl, hor, d1, d2, w2, retT, allV]
              · simp [c0, w0, hll, c1, ix, ld, e9, hand, hconv, hm7, hm8, hshl, hor, d1, d2, d3, w2, retT, allV]
              · simp [c0, w0, hll, c1, ix, ld, e9, e1, hand, hconv, hm7, hm8, hshl, hor, d1, d2, w2, retT, allV]
              · simp [c0, w0, hll, c1, ix, ld, e9, e1, hand, hconv, hm7, hm8, hshl, hor, d1, d2, d3, w2, retT, allV]) 8192 10 [Z x, I .i64 at_, I .u64 0, I .i64 0] s ⟨0, 0, rfl, rfl, rfl, by decide, hres⟩ (by omega)
  subst hτ
  subst hj
  exact lp

def vres (at_ len : Nat) : Option (Nat × Nat) → T
  | some (n, e) => .tup [.s (.int .u64 n), .s (.int .i64 e), .s (.int .i64 0)]
  | none => .tup [.s (.int .u64 0), .s (.int .i64 at_), .s (.int .i64 (if at_ ≤ len then 2 else 1))]

theorem vget_run (d : Nat) (h : RB s x bs) (hl : bs.length ≤ 100000) {at_ : Nat} (ha : at_ ≤ 100000) : R (d + 1) 118 [Z x, I .i64 at_] s = some (vres at_ bs.length (vget bs at_), s) := by
  rw [f118_run]
  unfold f118
  have hll := h.lenB
  have c0 : ¬ (at_ : Int) < 0 := by omega
  by_cases hle : at_ ≤ bs.length
  · have c1 : ¬ (bs.length : Int) < (at_ : Int) := by omega
    have lp := getN_run (R d) 8192 h hl ha _ rfl
    unfold vget
    rw [if_pos hle]
    cases hg : getN bs at_ 10 0 0 with
    | none =>
      rw [hg] at lp
      simp [c0, c1, hll, lp, vjo, vres, hle, retT, allV]
    | some p =>
      obtain ⟨n, e⟩ := p
      rw [hg] at lp
      simp [c0, c1, hll, lp, vjo, vres]
  · have c1 : (bs.length : Int) < (at_ : Int) := by omega
    unfold vget
    rw [if_neg hle]
    simp [c0, c1, hll, vres, hle, retT, allV]

theorem sum_run (d : Nat) (h : RB s x bs) (hl : bs.length ≤ 8000) : R (d + 2) 161 [Z x] s = some (I .u32 (sumB 1 bs), s) := by
  have key : R (d + 1) 174 [I .u32 1, Z x] s = some (I .u32 (sumB 1 bs), s) := by
    rw [f174_run]
    unfold f174
    have hll := h.lenB
    obtain ⟨j, τ, lp, hj, hτ⟩ := loops_inv (f := f174_l1 (R d) 8192) (fun q v u => ∃ k n : Nat, q + k = bs.length ∧ v = [I .u64 n, Z x, I .i64 bs.length, I .i64 k] ∧ u = s ∧ n < 4294967291 ∧ sumB n (bs.drop k) = sumB 1 bs)
      (fun j u => j = .exit 0 [I .u64 (sumB 1 bs)] ∧ u = s) (by
      rintro q v u ⟨k, n, hk, rfl, rfl, hn, hg⟩
      by_cases hkl : k < bs.length
      · left
        have hc : bs[k]? = some bs[k] := List.getElem?_eq_getElem hkl
        have hd : bs.drop k = bs[k] :: bs.drop (k + 1) := List.drop_eq_getElem_cons hkl
        rw [hd] at hg
        obtain ⟨p, ix, ld⟩ := h.atB (n := (k : Int)) rfl hc
        have hcb : bs[k].toNat < 256 := bs[k].toNat_lt
        obtain ⟨A1, A2, A3, A4, hA4, m1, m2, m3, m4⟩ : ∃ A1 A2 A3 A4 : Int, A4 = (((n * 257 + bs[k].toNat + 1) % 4294967291 : Nat) : Int) ∧ aBin .mul (I .u64 n) (I .u64 257) = some (I .u64 A1) ∧ aBin .add (I .u64 A1) (I .u64 bs[k].toNat) = some (I .u64 A2) ∧
            aBin .add (I .u64 A2) (I .u64 1) = some (I .u64 A3) ∧ aBin .rem (I .u64 A3) (I .u64 4294967291) = some (I .u64 A4) := ⟨_, _, _, _, rfl, More.step n bs[k].toNat hn hcb u⟩
        have hw : IntKind.u64.wrap (bs[k].toNat : Int) = (bs[k].toNat : Int) := wrap64 _ (by omega)
        have w1 : IntKind.i64.wrap ((k : Int) + 1) = ((k + 1 : Nat) : Int) := by rw [wrap_in _ (by omega) (by omega)]; omega
        have c0 : ((k : Int) < (bs.length : Int)) = True := eq_true (by omega)
        refine ⟨[I .u64 (((n * 257 + bs[k].toNat + 1) % 4294967291 : Nat)), Z x, I .i64 bs.length, I .i64 ((k + 1 : Nat) : Int)], u, q - 1, ?_, by omega, k + 1, _, by omega, rfl, rfl, Nat.mod_lt _ (by decide), hg⟩
        unfold f174_l1
        generalize ((k + 1 : Nat) : Int) = K1 at w1 ⊢
        rw [← hA4]
        generalize (bs[k].toNat : Int) = C at m2 ld hw
        generalize (k : Int) = K at w1 ix c0 ⊢
        simp only [jn_normal, bd_some, List.getD_cons_zero, List.getD_cons_succ, lss_int, br_true, decide_true, c0, ix, ld, m1, m2, m3, m4, aConv_int, hw, add_int, w1]
      · right
        have hk' : k = bs.length := by omega
        have c0 : ¬ ((k : Int) < (bs.length : Int)) := by omega
        have hg' : n = sumB 1 bs := by
          rw [List.drop_eq_nil_of_le (by omega)] at hg
          exact hg
        refine ⟨.exit 0 [I .u64 (sumB 1 bs)], u, ?_, (fun v hv => by cases hv), rfl, rfl⟩
        unfold f174_l1
        rw [hg']
        simp [c0]) 8192 bs.length [I .u64 1, Z x, I .i64 bs.length, I .i64 0] s ⟨0, 1, rfl, rfl, rfl, by decide, rfl⟩ (by omega)
    subst hj; subst hτ
    have hlt := sumB_lt bs 1 (by decide)
    have h32 : IntKind.u32.wrap (sumB 1 bs : Int) = (sumB 1 bs : Int) := by rw [wrap32, Nat.mod_eq_of_lt (by omega)]
    have e1 : aConv .u64 (I .u32 1) = some (I .u64 1) := rfl
    have e2 : aBin .rem (I .u64 1) (I .u64 4294967291) = some (I .u64 1) := rfl
    simp [e1, e2, hll, lp, h32]
  rw [f161_run]
  unfold f161
  simp [key]

theorem equal_run (d : Nat) (h : RB s x bs) (k : RB s y cs) (hl : bs.length ≤ 8000) : R (d + 1) 130 [Z x, Z y] s = some (B (decide (bs = cs)), s) := by
  rw [f130_run]
  unfold f130
  have hll := h.lenB
  have kll := k.lenB
  by_cases hle : bs.length = cs.length
  · have e0 : ((bs.length : Int) = (cs.length : Int)) = True := eq_true (by omega)
    obtain ⟨j, τ, lp, hj, hτ⟩ := loops_inv (f := f130_l1 (R d) 8192) (fun q v u => ∃ i : Nat, q + i = bs.length ∧ v = [Z x, Z y, I .i64 bs.length, I .i64 i] ∧ u = s ∧ bs.take i = cs.take i)
      (fun j u => (j = .exit 0 [] ∧ bs = cs ∨ j = .ret (B false) ∧ bs ≠ cs) ∧ u = s) (by
      rintro q v u ⟨i, hi, rfl, rfl, hg⟩
      by_cases hil : i < bs.length
      · have hb : bs[i]? = some bs[i] := List.getElem?_eq_getElem hil
        have hc : cs[i]? = some (cs[i]'(by omega)) := List.getElem?_eq_getElem (by omega)
        obtain ⟨p, ix, ld⟩ := h.atB (n := (i : Int)) rfl hb
        obtain ⟨p', ix', ld'⟩ := k.atB (n := (i : Int)) rfl hc
        have w1 : IntKind.i64.wrap ((i : Int) + 1) = ((i + 1 : Nat) : Int) := by rw [wrap_in _ (by omega) (by omega)]; omega
        have c0 : ((i : Int) < (bs.length : Int)) = True := eq_true (by omega)
        by_cases he : bs[i] = cs[i]'(by omega)
        · left
          refine ⟨[Z x, Z y, I .i64 bs.length, I .i64 ((i + 1 : Nat) : Int)], u, q - 1, ?_, by omega, i + 1, by omega, rfl, rfl, ?_⟩
          · unfold f130_l1
            rw [← he] at ld'
            generalize ((i + 1 : Nat) : Int) = K1 at w1 ⊢
            generalize (i : Int) = K at *
            simp [c0, ix, ix', ld, ld', w1]
          · rw [List.take_add_one, List.take_add_one, hg, hb, hc, he]
        · right
          have hne : ¬ ((bs[i].toNat : Int) = ((cs[i]'(by omega)).toNat : Int)) := fun e => he (UInt8.toNat.inj (by omega))
          refine ⟨.ret (B false), u, ?_, (fun v hv => by cases hv), .inr ⟨rfl, fun e => he (by simp [e])⟩, rfl⟩
          unfold f130_l1
          generalize (bs[i].toNat : Int) = X1 at *
          generalize ((cs[i]'(by omega)).toNat : Int) = X2 at *
          generalize (i : Int) = K at *
          simp [c0, ix, ix', ld, ld', hne]
      · right
        have c0 : ¬ ((i : Int) < (bs.length : Int)) := by omega
        refine ⟨.exit 0 [], u, ?_, (fun v hv => by cases hv), .inl ⟨rfl, ?_⟩, rfl⟩
        · unfold f130_l1
          simp [c0]
        · rwa [List.take_of_length_le (by omega), List.take_of_length_le (by omega)] at hg) 8192 bs.length [Z x, Z y, I .i64 bs.length, I .i64 0] s ⟨0, rfl, rfl, rfl, by simp⟩ (by omega)
    subst hτ
    rcases hj with ⟨rfl, he⟩ | ⟨rfl, he⟩
    · subst he
      simp [hll, kll, lp]
    · simp [hll, kll, e0, lp, he]
  · have e0 : ¬ ((bs.length : Int) = (cs.length : Int)) := by omega
    have hne : bs ≠ cs := fun e => hle (by rw [e])
    simp [hll, kll, e0, hne]
theorem vput_loop (r : CallF) (wf : s.wf) (n : Nat) (hn : n < 2 ^ 64) : ∃ (m : Nat) (x : S) (acc : List UInt8) (τ : St), loops (f159_l1 r 8192) 8192 [I .u64 n, Z .nils] s = some (.exit 0 [I .u64 m, Z x], τ) ∧ FB s τ x acc ∧ m < 128 ∧ acc ++ [UInt8.ofNat m] = vput n ∧ acc.length ≤ 10 := by
  obtain ⟨j, τ, lp, m, x, acc, rfl, hF, hm, hacc⟩ := loops_inv (f := f159_l1 r 8192) (fun q v u => ∃ (m : Nat) (x : S) (acc : List UInt8), v = [I .u64 m, Z x] ∧ FB s u x acc ∧ m < 2 ^ (64 - 7 * (10 - q)) ∧ q ≤ 10 ∧ acc.length = 10 - q ∧ acc ++ putN q m = vput n)
      (fun j u => ∃ (m : Nat) (x : S) (acc : List UInt8), j = .exit 0 [I .u64 m, Z x] ∧ FB s u x acc ∧ m < 128 ∧ acc ++ [UInt8.ofNat m] = vput n ∧ acc.length ≤ 10) (by
    rintro q v u ⟨m, x, acc, rfl, hF, hm, hq, hal, hacc⟩
    have hm64 : m < 2 ^ 64 := Nat.lt_of_lt_of_le hm (Nat.pow_le_pow_right (by omega) (by omega))
    by_cases h128 : 128 ≤ m
    · cases q with
      | zero =>
        exfalso
        have : 64 - 7 * (10 - 0) = 0 := by decide
        rw [this] at hm
        omega
      | succ q =>
        left
        have hor : aBin .or (I .u8 ((m % 256 : Nat))) (I .u8 128) = some (I .u8 ((UInt8.ofNat (m % 128 + 128)).toNat)) := by
          have h1 := or_u8 (m % 256) 128 (by omega) (by omega)
          rw [or128 _ (by omega)] at h1
          have e1 : (UInt8.ofNat (m % 128 + 128)).toNat = m % 256 % 128 + 128 := by rw [byte_nat]; omega
          rw [e1]
          exact h1
        have hw := wrap8 m
        have hshr : aBin .shr (I .u64 m) (I .u64 7) = some (I .u64 ((m / 2 ^ 7 : Nat))) := shr_nat .u64 m 7 (by decide)
        have c0 : ((128 : Int) ≤ (m : Int)) = True := eq_true (by omega)
        have nw := lit1 u (UInt8.ofNat (m % 128 + 128)).toNat
        obtain ⟨x', t, ap, hF', hz, _⟩ := FB.lit hF (cs := [UInt8.ofNat (m % 128 + 128)]) (by simp; omega)
        unfold putN at hacc
        rw [if_pos h128] at hacc
        refine ⟨[I .u64 ((m / 2 ^ 7 : Nat)), Z x'], t, q, ?_, rfl, m / 2 ^ 7, x', acc ++ [UInt8.ofNat (m % 128 + 128)], rfl, hF', ?_, by omega, by simp; omega, by rw [List.append_assoc]; exact hacc⟩
        · unfold f159_l1
          simp only [U, List.map_cons, List.map_nil, List.length_cons, List.length_nil, Nat.zero_add] at ap
          generalize ((m / 2 ^ 7 : Nat) : Int) = M7 at hshr ⊢
          generalize ((m % 256 : Nat) : Int) = M8 at hw hor
          generalize ((UInt8.ofNat (m % 128 + 128)).toNat : Int) = B8 at hor nw ap
          generalize (m : Int) = M at *
          simp [c0, hw, hor, nw, ap, hshr]
        · have hq0 : q ≠ 0 := fun e => by
            subst e
            have : 64 - 7 * (10 - (0 + 1)) = 1 := by decide
            rw [this] at hm
            omega
          have h2 : (2 : Nat) ^ (64 - 7 * (10 - (q + 1))) = 2 ^ (64 - 7 * (10 - q)) * 2 ^ 7 := by
            rw [← Nat.pow_add]
            congr 1
            omega
          rw [h2] at hm
          exact Nat.div_lt_of_lt_mul (by rw [Nat.mul_comm]; exact hm)
    · right
      have c0 : ((128 : Int) ≤ (m : Int)) = False := eq_false (by omega)
      refine ⟨.exit 0 [I .u64 m, Z x], u, ?_, (fun v hv => by cases hv), m, x, acc, rfl, hF, by omega, ?_, by omega⟩
      · unfold f159_l1
        simp [c0]
      · rw [← hacc]
        cases q with
        | zero => rfl
        | succ q => unfold putN; rw [if_neg h128]) 8192 10 [I .u64 n, Z .nils] s ⟨n, .nils, [], rfl, Fr.nil 1 wf, hn, by omega, rfl, rfl⟩ (by omega)
  exact ⟨m, x, acc, τ, lp, hF, hm, hacc⟩

theorem vput_run (d : Nat) (wf : s.wf) (n : Nat) (hn : n < 2 ^ 64) : ∃ x t, R (d + 1) 159 [I .u64 n] s = some (Z x, t) ∧ FB s t x (vput n) := by
  rw [f159_run]
  unfold f159
  obtain ⟨m, x, acc, τ, lp, hF, hm, hacc⟩ := vput_loop (R d) wf n hn
  have nw := lit1 τ m
  have hb : (UInt8.ofNat m).toNat = m := by rw [byte_nat]; omega
  obtain ⟨x', t, ap, hF', _⟩ := FB.lit hF (cs := [UInt8.ofNat m]) (by simp; omega)
  rw [hacc.1] at hF'
  refine ⟨x', t, ?_, hF'⟩
  have hw : IntKind.u8.wrap (m : Int) = (m : Int) := by rw [wrap8]; omega
  simp only [U, List.map_cons, List.map_nil, List.length_cons, List.length_nil, Nat.zero_add, hb] at ap
  simp [lp, hw, nw, ap]
end
end Go.Proofs.YtbohejffelipoaaGreatDoor


/-
  Entries: what entry.May, Put and Same compute, in any store. No conditions but those named in each line.
-/
namespace Go.Proofs.YtbohejffelipoaaGreatDoor
open Go Go.Abs Go.Abs.F
set_option linter.unusedVariables false

structure Ent where
  k : Int
  v : Int
  i : Int
  t : Int
  f : Int
  o : Int
  u : Int
  x : Bs
  deriving DecidableEq

def cE (e : Ent) : List S := [.int .i64 e.k, .int .i64 e.v, .int .i64 e.i, .int .i64 e.t, .int .i64 e.f, .int .i64 e.o, .int .u32 e.u, .str e.x]
abbrev AE (e : Ent) : T := .v (.agg (cE e))
def ent0 : Ent := ⟨0, 0, 0, 0, 0, 0, 0, []⟩
theorem cE_len (e : Ent) : (cE e).length = 8 := rfl

def idOk (n : Int) : Bool := decide (1 ≤ n) && decide (n ≤ 1073741824)
def mayE (e : Ent) : Bool :=
  if e.v < 0 ∨ 1073741824 < e.v then false
  else if e.k = 1 then decide (e.x = []) && idOk e.i && decide (0 ≤ e.t) && decide (e.t < 4) && decide (0 ≤ e.f) && decide (e.f < e.o) && decide (e.o ≤ 1099511627776)
  else if e.k = 2 then idOk e.i && decide (e = { ent0 with k := 2, v := e.v, i := e.i })
  else if e.k = 3 then decide (0 < e.v) && decide (e = { ent0 with k := 3, v := e.v })
  else if e.k = 4 then decide (e.x.length ≤ 300) && decide (e = { ent0 with k := 4, v := e.v, x := e.x }) && decide ((parseP e.x).2.1 = 0)
  else false

section
variable {s t : St} {x y : S} {l : Bs} {i : Nat}

theorem eqE (a b : Ent) : aEq (.a 8 [(0, .i), (1, .i), (2, .i), (3, .i), (4, .i), (5, .i), (6, .i), (7, .s)]) (AE a) (AE b) = some (decide (a = b)) := by
  obtain ⟨a1, a2, a3, a4, a5, a6, a7, a8⟩ := a
  obtain ⟨b1, b2, b3, b4, b5, b6, b7, b8⟩ := b
  show some (decide (a1 = b1) && (decide (a2 = b2) && (decide (a3 = b3) && (decide (a4 = b4) && (decide (a5 = b5) && (decide (a6 = b6) && (decide (a7 = b7) && (decide (a8 = b8) && true)))))))) = some (decide (Ent.mk a1 a2 a3 a4 a5 a6 a7 a8 = Ent.mk b1 b2 b3 b4 b5 b6 b7 b8))
  simp only [Ent.mk.injEq, Bool.and_true, Bool.decide_and]

theorem eqBE (a b : Ent) : eqB (.a 8 [(0, .i), (1, .i), (2, .i), (3, .i), (4, .i), (5, .i), (6, .i), (7, .s)]) (AE a) (AE b) = some (B (decide (a = b))) := by
  simp only [eqB, eqE]
theorem neBE (a b : Ent) : neB (.a 8 [(0, .i), (1, .i), (2, .i), (3, .i), (4, .i), (5, .i), (6, .i), (7, .s)]) (AE a) (AE b) = some (B (!decide (a = b))) := by
  simp only [neB, eqE]

theorem load8 {i : Nat} {w : Bool} {e : Ent} {g : Mem} (h : g i = some (.cells w (cE e))) : aLoadN 8 (Z (.ptr i 0)) g = some (AE e) := by
  simp [aLoadN, h, cE]
theorem store8 {i : Nat} {vs : List S} {e : Ent} (h : s.get i = some (.cells true vs)) (hv : vs.length = 8) : aStore 8 (Z (.ptr i 0)) (AE e) s = some (tt, s.set i (.cells true (cE e))) := by
  have hb : (V.agg (cE e)).cells.length = 8 ∧ 0 + 8 ≤ vs.length := ⟨rfl, by omega⟩
  simp only [aStore, h, if_pos hb]
  rw [show (V.agg (cE e)).cells = cE e from rfl, setRange_all (by rw [hv]; rfl)]
theorem agg8 : asAggT (aFill [.int .i64 0, .int .i64 0, .int .i64 0, .int .i64 0, .int .i64 0, .int .i64 0, .int .u32 0, .str []] []) = some (AE ent0) := rfl

theorem id_run (d : Nat) (n : Int) : R (d + 1) 193 [I .i64 n] s = some (B (idOk n), s) := by
  rw [f193_run]
  unfold f193
  by_cases h : 1 ≤ n
  · simp [idOk, h]
  · simp [idOk, h]

theorem mayE_run (d : Nat) (wf : s.wf) (e : Ent) : ∃ t, R (d + 8) 149 [AE e] s = some (B (mayE e), t) ∧ Gr s t := by
  rw [f149_run]
  unfold f149
  obtain ⟨s1, hs1⟩ : ∃ s1, s1 = s.push (.cells true (cE e)) := ⟨_, rfl⟩
  have nw1 : aNew s (nBox (AE e)) = some (Z (.ptr s.size 0), s1) := by rw [hs1]; rfl
  have g1 : Gr s s1 := by rw [hs1]; exact Gr.push wf _
  have h1 : s1.get s.size = some (.cells true (cE e)) := by rw [hs1]; exact St.get_push_same _ _
  have l0 : aLoad1 (Z (.ptr s.size 0)) s1.get = some (I .i64 e.k) := aLoad1_of h1 rfl
  have l1 : aLoad1 (Z (.ptr s.size 1)) s1.get = some (I .i64 e.v) := aLoad1_of h1 rfl
  have l2 : aLoad1 (Z (.ptr s.size 2)) s1.get = some (I .i64 e.i) := aLoad1_of h1 rfl
  have l3 : aLoad1 (Z (.ptr s.size 3)) s1.get = some (I .i64 e.t) := aLoad1_of h1 rfl
  have l4 : aLoad1 (Z (.ptr s.size 4)) s1.get = some (I .i64 e.f) := aLoad1_of h1 rfl
  have l5 : aLoad1 (Z (.ptr s.size 5)) s1.get = some (I .i64 e.o) := aLoad1_of h1 rfl
  have l7 : aLoad1 (Z (.ptr s.size 7)) s1.get = some (Z (.str e.x)) := aLoad1_of h1 rfl
  have l8 := load8 (g := s1.get) h1
  have eid := id_run (s := s1) (d + 6) e.i
  simp only [Nat.add_assoc, Nat.reduceAdd] at eid
  by_cases c1 : e.v < 0
  · refine ⟨s1, ?_, g1⟩
    have hm : mayE e = false := by simp [mayE, c1]
    rw [hm]
    simp [nw1, l1, c1]
  · by_cases c2 : 1073741824 < e.v
    · refine ⟨s1, ?_, g1⟩
      have hm : mayE e = false := by simp [mayE, c2]
      rw [hm]
      simp [nw1, l1, c1, c2]
    · have hv : ¬ (e.v < 0 ∨ 1073741824 < e.v) := fun h => h.elim c1 c2
      by_cases k1 : e.k = 1
      · have hm : mayE e = (decide (e.x = []) && idOk e.i && decide (0 ≤ e.t) && decide (e.t < 4) && decide (0 ≤ e.f) && decide (e.f < e.o) && decide (e.o ≤ 1099511627776)) := by
          unfold mayE; rw [if_neg hv, if_pos k1]
        rw [hm]
        refine ⟨s1, ?_, g1⟩
        by_cases d1 : e.x = []
        · cases d2 : idOk e.i with
          | true =>
            rw [d2] at eid
            by_cases d3 : 0 ≤ e.t
            · by_cases d4 : e.t < 4
              · by_cases d5 : 0 ≤ e.f
                · by_cases d6 : e.f < e.o
                  · simp [nw1, l0, l1, l2, l3, l4, l5, l7, c1, c2, k1, d1, eid, d3, d4, d5, d6]
                  · simp [nw1, l0, l1, l2, l3, l4, l5, l7, c1, c2, k1, d1, eid, d3, d4, d5, d6]
                · simp [nw1, l0, l1, l2, l3, l4, l5, l7, c1, c2, k1, d1, eid, d3, d4, d5]
              · simp [nw1, l0, l1, l2, l3, l4, l5, l7, c1, c2, k1, d1, eid, d3, d4]
            · simp [nw1, l0, l1, l2, l3, l4, l5, l7, c1, c2, k1, d1, eid, d3]
          | false =>
            rw [d2] at eid
            simp [nw1, l0, l1, l2, l3, l4, l5, l7, c1, c2, k1, d1, eid]
        · simp [nw1, l0, l1, l2, l3, l4, l5, l7, c1, c2, k1, d1]
      · by_cases k2 : e.k = 2
        · have hm : mayE e = (idOk e.i && decide (e = { ent0 with k := 2, v := e.v, i := e.i })) := by
            unfold mayE; rw [if_neg hv, if_neg k1, if_pos k2]
          rw [hm]
          refine ⟨s1, ?_, g1⟩
          have ag : asAggT (aFill [.int .i64 0, .int .i64 0, .int .i64 0, .int .i64 0, .int .i64 0, .int .i64 0, .int .u32 0, .str []] [(0, 1, (I .i64 2)), (1, 1, I .i64 e.v), (2, 1, I .i64 e.i)]) = some (AE { ent0 with k := 2, v := e.v, i := e.i }) := rfl
          have eq := eqBE e { ent0 with k := 2, v := e.v, i := e.i }
          generalize hD : decide (e = { ent0 with k := 2, v := e.v, i := e.i }) = D at *
          generalize ({ ent0 with k := 2, v := e.v, i := e.i } : Ent) = e2 at *
          cases d2 : idOk e.i with
          | true =>
            rw [d2] at eid
            simp [nw1, l0, l1, l2, l8, c1, c2, k2, eid, ag, eq]
          | false =>
            rw [d2] at eid
            simp [nw1, l0, l1, l2, l8, c1, c2, k2, eid]
        · by_cases k3 : e.k = 3
          · have hm : mayE e = (decide (0 < e.v) && decide (e = { ent0 with k := 3, v := e.v })) := by
              unfold mayE; rw [if_neg hv, if_neg k1, if_neg k2, if_pos k3]
            rw [hm]
            refine ⟨s1, ?_, g1⟩
            have ag : asAggT (aFill [.int .i64 0, .int .i64 0, .int .i64 0, .int .i64 0, .int .i64 0, .int .i64 0, .int .u32 0, .str []] [(0, 1, (I .i64 3)), (1, 1, I .i64 e.v)]) = some (AE { ent0 with k := 3, v := e.v }) := rfl
            have eq := eqBE e { ent0 with k := 3, v := e.v }
            generalize hD : decide (e = { ent0 with k := 3, v := e.v }) = D at *
            generalize ({ ent0 with k := 3, v := e.v } : Ent) = e2 at *
            by_cases d1 : 0 < e.v
            · simp [nw1, l0, l1, l8, c1, c2, k3, d1, ag, eq]
            · simp [nw1, l0, l1, l8, c1, c2, k3, d1]
          · by_cases k4 : e.k = 4
            · have hm : mayE e = (decide (e.x.length ≤ 300) && decide (e = { ent0 with k := 4, v := e.v, x := e.x }) && decide ((parseP e.x).2.1 = 0)) := by
                unfold mayE; rw [if_neg hv, if_neg k1, if_neg k2, if_neg k3, if_pos k4]
              rw [hm]
              have ag : asAggT (aFill [.int .i64 0, .int .i64 0, .int .i64 0, .int .i64 0, .int .i64 0, .int .i64 0, .int .u32 0, .str []] [(0, 1, (I .i64 4)), (1, 1, I .i64 e.v), (7, 1, Z (.str e.x))]) = some (AE { ent0 with k := 4, v := e.v, x := e.x }) := rfl
              have eq := neBE e { ent0 with k := 4, v := e.v, x := e.x }
              generalize hD : decide (e = { ent0 with k := 4, v := e.v, x := e.x }) = D at *
              generalize ({ ent0 with k := 4, v := e.v, x := e.x } : Ent) = e2 at *
              by_cases d1 : e.x.length ≤ 300
              · have d1' : ¬ (300 : Int) < (e.x.length : Int) := by omega
                cases D with
                | false =>
                  refine ⟨s1, ?_, g1⟩
                  simp [nw1, l0, l1, l7, l8, c1, c2, k4, d1', ag, eq]
                | true =>
                  obtain ⟨s2, e2', g2⟩ := parse_run (l := e.x) d g1.wf (by omega)
                  obtain ⟨s3, hs3⟩ : ∃ s3, s3 = s2.push (.cells true (cP pol0)) := ⟨_, rfl⟩
                  have nw3 : aNew s2 (nCells [.int .i64 0, .int .i64 0, .int .i64 0, .int .i64 0, .int .i64 0, .int .i64 0]) = some (Z (.ptr s2.size 0), s3) := by rw [hs3]; rfl
                  have g3 : Gr s2 s3 := by rw [hs3]; exact Gr.push g2.wf _
                  have st := store6 (p := (parseP e.x).1) (s := s3) (i := s2.size) (vs := cP pol0) (by rw [hs3]; exact St.get_push_same _ _) rfl
                  refine ⟨s3.set s2.size (.cells true (cP (parseP e.x).1)), ?_, g1.trans (g2.trans ⟨St.wf_set g3.wf (by rw [hs3]; simp) _, by simp; exact g3.2.1, fun b hb => by rw [St.get_set_ne _ _ (by omega)]; exact g3.2.2 b hb⟩)⟩
                  generalize R (d + 7) = r at *
                  simp [nw1, l0, l1, l7, l8, c1, c2, k4, d1', d1, ag, eq, e2', aExtract, nw3, st]
              · have d1' : (300 : Int) < (e.x.length : Int) := by omega
                refine ⟨s1, ?_, g1⟩
                simp [nw1, l0, l1, l7, c1, c2, k4, d1', d1]
            · have hm : mayE e = false := by unfold mayE; rw [if_neg hv, if_neg k1, if_neg k2, if_neg k3, if_neg k4]
              rw [hm]
              refine ⟨s1, ?_, g1⟩
              simp [nw1, l0, l1, c1, c2, k1, k2, k3, k4]

/-! ### Put -/

def nums (e : Ent) : List Nat :=
  if e.k = 1 then [e.i.toNat, e.t.toNat, e.f.toNat, e.o.toNat, e.u.toNat] else if e.k = 2 then [e.i.toNat] else if e.k = 4 then [e.x.length] else []
def putNs : List Nat → Bs
  | [] => []
  | n :: r => vput n ++ putNs r
def putB (e : Ent) : Bs := UInt8.ofNat e.k.toNat :: (vput e.v.toNat ++ putNs (nums e) ++ e.x)
def putE (e : Ent) : Option Bs := if mayE e then some (putB e) else none

def u64S (l : List Nat) : List S := l.map fun n : Nat => S.int .u64 ((n : Nat) : Int)
@[simp] theorem u64S_len (l : List Nat) : (u64S l).length = l.length := by simp [u64S]

theorem putNs_len : ∀ l : List Nat, (putNs l).length ≤ 11 * l.length
  | [] => by simp [putNs]
  | n :: r => by have := vput_len n; have := putNs_len r; simp [putNs]; omega
theorem putNs_snoc : ∀ (l : List Nat) (n : Nat), putNs (l ++ [n]) = putNs l ++ vput n
  | [], n => by simp [putNs]
  | m :: r, n => by simp [putNs, putNs_snoc r n]

theorem nums_len (e : Ent) : (nums e).length ≤ 5 := by
  unfold nums
  split
  · simp
  · split
    · simp
    · split <;> simp

theorem nums_loop (d : Nat) {s0 : St} {v0 : T} {acc : Bs} {ns : List Nat} (hb : FB s0 s y acc) (hx : Rd 1 s x ns.length (u64S ns)) (hox : ∀ c, own x = some c → c < s.size ∧ own y ≠ some c ∧ s0.size ≤ c) (hn : ∀ n ∈ ns, n < 2 ^ 64) (hl : ns.length ≤ 5) (ha : acc.length ≤ 1000) :
    ∃ (z : S) (τ : St), loops (f133_l1 (R (d + 1)) 8192) 8192 [v0, Z y, Z x, I .i64 ns.length, I .i64 0] s = some (.exit 1 [v0, Z z], τ) ∧ FB s0 τ z (acc ++ putNs ns) := by
  obtain ⟨j, τ, lp, z, rfl, hf⟩ := loops_inv (f := f133_l1 (R (d + 1)) 8192) (fun q v u => ∃ (k : Nat) (z : S), q + k = ns.length ∧ v = [v0, Z z, Z x, I .i64 ns.length, I .i64 k] ∧ FB s0 u z (acc ++ putNs (ns.take k)) ∧ Rd 1 u x ns.length (u64S ns) ∧ (∀ c, own x = some c → c < u.size ∧ own z ≠ some c))
    (fun j u => ∃ z, j = .exit 1 [v0, Z z] ∧ FB s0 u z (acc ++ putNs ns)) (by
    rintro q v u ⟨k, z, hk, rfl, hf, hr, ho⟩
    by_cases hkl : k < ns.length
    · left
      have hc : ns[k]? = some ns[k] := List.getElem?_eq_getElem hkl
      obtain ⟨p, ix, ld⟩ := Rd.at1 hr (n := ns.length) (i := (k : Int)) (v := .int .u64 (ns[k] : Int)) rfl (by simp [u64S, hc])
      have c0 : (k : Int) < (ns.length : Int) := by omega
      have w1 : IntKind.i64.wrap ((k : Int) + 1) = ((k + 1 : Nat) : Int) := by rw [wrap_in _ (by omega) (by omega)]; omega
      have htk : ns.take (k + 1) = ns.take k ++ [ns[k]] := by rw [List.take_add_one, hc]; rfl
      obtain ⟨p1, u1, e1, f1⟩ := vput_run d hf.gr.wf ns[k] (hn _ (List.getElem_mem hkl))
      have hf1 : FB s0 u1 z (acc ++ putNs (ns.take k)) := hf.gr' f1.gr
      have hpl : (putNs (ns.take k)).length ≤ 55 := by have := putNs_len (ns.take k); rw [List.length_take] at this; omega
      obtain ⟨z2, u2, ap, hf2, hz2, keep2, new2⟩ := FB.app' hf1 f1.rd (by have := vput_len ns[k]; simp; omega)
      have hr2 : Rd 1 u2 x ns.length (u64S ns) := hr.keep fun c hc' => by rw [keep2 c (Nat.lt_of_lt_of_le (ho c hc').1 f1.gr.2.1) (ho c hc').2, f1.gr.2.2 c (ho c hc').1]
      have ho2 : ∀ c, own x = some c → c < u2.size ∧ own z2 ≠ some c := fun c hc' => by
        have h1 := (ho c hc').1
        have h2 := f1.gr.2.1
        refine ⟨by omega, fun e => ?_⟩
        rcases new2 with n | n | ⟨c', n, hc2⟩
        · rw [n] at e; cases e
        · rw [n] at e; exact (ho c hc').2 e
        · rw [n] at e; cases e; omega
      refine ⟨[v0, Z z2, Z x, I .i64 ns.length, I .i64 ((k + 1 : Nat) : Int)], u2, q - 1, ?_, by omega, k + 1, z2, by omega, rfl, by rw [htk, putNs_snoc, ← List.append_assoc]; exact hf2, hr2, ho2⟩
      unfold f133_l1
      generalize R (d + 1) = r at *
      generalize ((k + 1 : Nat) : Int) = K1 at w1 ⊢
      generalize (k : Int) = K at *
      generalize (ns[k] : Int) = NK at *
      generalize (ns.length : Int) = L at *
      simp [c0, ix, ld, e1, ap, w1]
    · right
      have hk' : k = ns.length := by omega
      subst hk'
      rw [List.take_length] at hf
      refine ⟨.exit 1 [v0, Z z], u, ?_, (fun v hv => by cases hv), z, rfl, hf⟩
      unfold f133_l1
      simp) 8192 ns.length [v0, Z y, Z x, I .i64 ns.length, I .i64 0] s ⟨0, y, by omega, rfl, by simpa [putNs] using hb, hx, fun c hc => ⟨(hox c hc).1, (hox c hc).2.1⟩⟩ (by omega)
  exact ⟨z, τ, lp, hf⟩

def EWf (e : Ent) : Prop := 0 ≤ e.u ∧ e.u < 4294967296

theorem mayE_range {e : Ent} (h : mayE e = true) : 0 ≤ e.v ∧ e.v ≤ 1073741824 ∧ 1 ≤ e.k ∧ e.k ≤ 4 ∧ (e.k = 1 → e.x = [] ∧ 1 ≤ e.i ∧ e.i ≤ 1073741824 ∧ 0 ≤ e.t ∧ e.t < 4 ∧ 0 ≤ e.f ∧ e.f < e.o ∧ e.o ≤ 1099511627776) ∧
    (e.k = 2 → 1 ≤ e.i ∧ e.i ≤ 1073741824 ∧ e = { ent0 with k := 2, v := e.v, i := e.i }) ∧ (e.k = 3 → 0 < e.v ∧ e = { ent0 with k := 3, v := e.v }) ∧ (e.k = 4 → e.x.length ≤ 300 ∧ e = { ent0 with k := 4, v := e.v, x := e.x } ∧ (parseP e.x).2.1 = 0) := by
  unfold mayE at h
  split at h
  · cases h
  · rename_i hv
    have hv' : 0 ≤ e.v ∧ e.v ≤ 1073741824 := by omega
    refine ⟨hv'.1, hv'.2, ?_⟩
    by_cases k1 : e.k = 1
    · rw [if_pos k1] at h
      simp only [Bool.and_eq_true, decide_eq_true_eq, idOk] at h
      refine ⟨by omega, by omega, fun _ => ?_, (fun h2 => by omega), (fun h2 => by omega), (fun h2 => by omega)⟩
      obtain ⟨⟨⟨⟨⟨⟨a, b, b'⟩, c⟩, d⟩, f⟩, g⟩, o⟩ := h
      exact ⟨a, b, b', c, d, f, g, o⟩
    · rw [if_neg k1] at h
      by_cases k2 : e.k = 2
      · rw [if_pos k2] at h
        simp only [Bool.and_eq_true, decide_eq_true_eq, idOk] at h
        exact ⟨by omega, by omega, (fun h2 => by omega), fun _ => ⟨h.1.1, h.1.2, h.2⟩, (fun h2 => by omega), (fun h2 => by omega)⟩
      · rw [if_neg k2] at h
        by_cases k3 : e.k = 3
        · rw [if_pos k3] at h
          simp only [Bool.and_eq_true, decide_eq_true_eq] at h
          exact ⟨by omega, by omega, (fun h2 => by omega), (fun h2 => by omega), fun _ => h, (fun h2 => by omega)⟩
        · rw [if_neg k3] at h
          by_cases k4 : e.k = 4
          · rw [if_pos k4] at h
            simp only [Bool.and_eq_true, decide_eq_true_eq] at h
            exact ⟨by omega, by omega, (fun h2 => by omega), (fun h2 => by omega), (fun h2 => by omega), fun _ => ⟨h.1.1, h.1.2, h.2⟩⟩
          · rw [if_neg k4] at h
            cases h

theorem nums_lt {e : Ent} (h : mayE e = true) (hw : EWf e) : ∀ n ∈ nums e, n < 2 ^ 64 := by
  obtain ⟨_, _, _, _, h1, h2, _, h4⟩ := mayE_range h
  have := hw.2
  intro n hn
  unfold nums at hn
  split at hn
  · rename_i k
    have := h1 k
    simp at hn
    rcases hn with rfl | rfl | rfl | rfl | rfl <;> omega
  · split at hn
    · rename_i k
      have := h2 k
      simp at hn
      omega
    · split at hn
      · rename_i k
        have := h4 k
        simp at hn
        omega
      · cases hn

theorem putB_len {e : Ent} (h : e.x.length ≤ 300) : (putB e).length ≤ 400 := by
  have h1 := vput_len e.v.toNat
  have h2 := putNs_len (nums e)
  have h3 := nums_len e
  simp [putB]
  omega
theorem mayE_x {e : Ent} (h : mayE e = true) : e.x.length ≤ 300 := by
  obtain ⟨_, _, k1, k4, h1, h2, h3, h4⟩ := mayE_range h
  by_cases e1 : e.k = 1
  · rw [(h1 e1).1]; simp
  · by_cases e2 : e.k = 2
    · rw [(h2 e2).2.2]; simp [ent0]
    · by_cases e3 : e.k = 3
      · rw [(h3 e3).2]; simp [ent0]
      · exact (h4 (by omega)).1

theorem put_bad (d : Nat) (wf : s.wf) {e : Ent} (h : mayE e = false) : ∃ t, R (d + 9) 133 [AE e] s = some (.tup [.s .nils, .s (.int .i64 1)], t) ∧ Gr s t := by
  rw [f133_run]
  unfold f133
  obtain ⟨s1, hs1⟩ : ∃ s1, s1 = s.push (.cells true (cE e)) := ⟨_, rfl⟩
  have nw1 : aNew s (nBox (AE e)) = some (Z (.ptr s.size 0), s1) := by rw [hs1]; rfl
  have g1 : Gr s s1 := by rw [hs1]; exact Gr.push wf _
  have h1 : s1.get s.size = some (.cells true (cE e)) := by rw [hs1]; exact St.get_push_same _ _
  have l8 := load8 (g := s1.get) h1
  obtain ⟨s2, e2, g2⟩ := mayE_run d g1.wf e
  rw [h] at e2
  exact ⟨s2, by simp [nw1, l8, e2, retT, allV], g1.trans g2⟩

theorem put_run (d : Nat) (wf : s.wf) {e : Ent} (h : mayE e = true) (hw : EWf e) : ∃ y t, R (d + 9) 133 [AE e] s = some (.tup [.s y, .s (.int .i64 0)], t) ∧ FB s t y (putB e) := by
  rw [f133_run]
  unfold f133
  obtain ⟨r1, r2, r3, r4, hk1, hk2, hk3, hk4⟩ := mayE_range h
  obtain ⟨s1, hs1⟩ : ∃ s1, s1 = s.push (.cells true (cE e)) := ⟨_, rfl⟩
  have nw1 : aNew s (nBox (AE e)) = some (Z (.ptr s.size 0), s1) := by rw [hs1]; rfl
  have g1 : Gr s s1 := by rw [hs1]; exact Gr.push wf _
  have h1 : s1.get s.size = some (.cells true (cE e)) := by rw [hs1]; exact St.get_push_same _ _
  have z1 : s1.size = s.size + 1 := by rw [hs1]; rfl
  have l8 := load8 (g := s1.get) h1
  obtain ⟨s2, e2, g2⟩ := mayE_run d g1.wf e
  rw [h] at e2
  have h2 : s2.get s.size = some (.cells true (cE e)) := g2.get h1 g1.wf
  have hz2 : s.size + 1 ≤ s2.size := by have := g2.2.1; omega
  have lk : aLoad1 (Z (.ptr s.size 0)) s2.get = some (I .i64 e.k) := aLoad1_of h2 rfl
  have wk : IntKind.u8.wrap e.k = ((UInt8.ofNat e.k.toNat).toNat : Int) := by
    have := wrap8 e.k.toNat
    rw [show ((e.k.toNat : Nat) : Int) = e.k by omega] at this
    rw [this, byte_nat]
  obtain ⟨kb, hkb⟩ : ∃ kb, kb = UInt8.ofNat e.k.toNat := ⟨_, rfl⟩
  rw [← hkb] at wk
  obtain ⟨s4, hs4⟩ : ∃ s4, s4 = s2.push (.cells true (U [kb])) := ⟨_, rfl⟩
  have nw4 : aNew s2 (nSlice 1 (aFill [.int .u8 0] [(0, 1, I .u8 kb.toNat)])) = some (Z (.sl s2.size 0 1 (.known 1)), s4) := by rw [hs4, lit1]; rfl
  have f4 : FB s2 s4 (.sl s2.size 0 1 (.known 1)) [kb] := by rw [hs4]; exact Fr.lit 1 g2.wf rfl
  have h4 : s4.get s.size = some (.cells true (cE e)) := f4.gr.get h2 g2.wf
  have lv : aLoad1 (Z (.ptr s.size 1)) s4.get = some (I .i64 e.v) := aLoad1_of h4 rfl
  have wv : IntKind.u64.wrap e.v = (e.v.toNat : Int) := by rw [wrap_u64_in _ (by omega) (by omega)]; omega
  obtain ⟨y5, s5, e5, f5⟩ := vput_run (d + 7) f4.gr.wf e.v.toNat (by omega)
  have h5 : s5.get s.size = some (.cells true (cE e)) := f5.gr.get h4 f4.gr.wf
  have lk5 : aLoad1 (Z (.ptr s.size 0)) s5.get = some (I .i64 e.k) := aLoad1_of h5 rfl
  have hov : overlay 8 s5.get (ovO 3 s2.size (nSlice 1 (aFill [.int .u8 0] [(0, 1, I .u8 kb.toNat)])) []) = s5.get := rfl
  have f45 : FB s2 s5 (.sl s2.size 0 1 (.known 1)) [kb] := f4.gr' f5.gr
  obtain ⟨y6, s6, ap6, f6, z6, k6, n6⟩ := FB.app' f45 f5.rd (by have := vput_len e.v.toNat; simp; omega)
  have h6 : s6.get s.size = some (.cells true (cE e)) := f6.gr.get h2 g2.wf
  have hacc : ([kb] ++ vput e.v.toNat).length ≤ 1000 := by have := vput_len e.v.toNat; simp; omega
  have L : ∀ (j : Nat) (x : S), (cE e)[j]? = some x → aLoad1 (Z (.ptr s.size j)) s6.get = some (Z x) := fun j x hx => aLoad1_of h6 hx
  have l0 := L 0 _ rfl
  have l2 := L 2 _ rfl
  have l3 := L 3 _ rfl
  have l4 := L 4 _ rfl
  have l5 := L 5 _ rfl
  have l6 := L 6 _ rfl
  have l7 := L 7 _ rfl
  have fin : ∀ (z : S) (τ : St), FB s2 τ z ([kb] ++ vput e.v.toNat ++ putNs (nums e)) → ∃ y t, aLoad1 (Z (.ptr s.size 7)) τ.get = some (Z (.str e.x)) ∧ aAppend 1 1 (Z z) (Z (.str e.x)) τ = some (Z y, t) ∧ FB s t y (putB e) := fun z τ hf => by
    have hx := mayE_x h
    have hn := putNs_len (nums e)
    have hn2 := nums_len e
    obtain ⟨y, t, ap, hf2, _⟩ := FB.appStr (cs := e.x) hf (by simp at hacc ⊢; omega)
    refine ⟨y, t, aLoad1_of (hf.gr.get h2 g2.wf) rfl, ap, ?_⟩
    have e1 : [kb] ++ vput e.v.toNat ++ putNs (nums e) ++ e.x = putB e := by rw [hkb]; simp [putB]
    rw [e1] at hf2
    exact hf2.from (g1.trans g2)
  have hlt := nums_lt h hw
  have hnl := nums_len e
  have own6 : ∀ c, own y6 = some c → c < s6.size := fun c hc => (f6.new c hc).2
  have num : ∀ n, n = (nums e).length → ∃ z τ, loops (f133_l1 (R (d + 8)) 8192) 8192 [Z (.ptr s.size 0), Z y6, Z (.sl s6.size 0 n (.known n)), I .i64 (n : Nat), I .i64 0] (s6.push (.cells true (u64S (nums e)))) = some (.exit 1 [Z (.ptr s.size 0), Z z], τ) ∧ FB s2 τ z ([kb] ++ vput e.v.toNat ++ putNs (nums e)) := fun n hn => by
    subst hn
    have L := Fr.lit 1 f6.gr.wf (n := (nums e).length) (vs := u64S (nums e)) (by simp)
    exact nums_loop (d + 7) (v0 := Z (.ptr s.size 0)) (f6.gr' L.gr) L.rd (fun c hc => by
      cases hc
      exact ⟨by simp, (fun e => by have := own6 _ e; omega), by have := f6.gr.2.1; omega⟩) hlt hnl hacc
  simp only [Nat.add_assoc, Nat.reduceAdd] at e5
  by_cases c1 : e.k = 1
  · have ns : nums e = [e.i.toNat, e.t.toNat, e.f.toNat, e.o.toNat, e.u.toNat] := by unfold nums; rw [if_pos c1]
    obtain ⟨_, i1, i2, t1, t2, q1, q2, q3⟩ := hk1 c1
    have hu := hw.1
    have hu2 := hw.2
    have w2 : IntKind.u64.wrap e.i = (e.i.toNat : Int) := by rw [wrap_u64_in _ (by omega) (by omega)]; omega
    have w3 : IntKind.u64.wrap e.t = (e.t.toNat : Int) := by rw [wrap_u64_in _ (by omega) (by omega)]; omega
    have w4 : IntKind.u64.wrap e.f = (e.f.toNat : Int) := by rw [wrap_u64_in _ (by omega) (by omega)]; omega
    have w5 : IntKind.u64.wrap e.o = (e.o.toNat : Int) := by rw [wrap_u64_in _ (by omega) (by omega)]; omega
    have w6 : IntKind.u64.wrap e.u = (e.u.toNat : Int) := by rw [wrap_u64_in _ (by omega) (by omega)]; omega
    obtain ⟨z, τ, lp, hf⟩ := num 5 (by rw [ns]; rfl)
    obtain ⟨y, t, lx, apx, hf2⟩ := fin z τ hf
    have nw7 : aNew s6 (nSlice 5 (aFill [.int .u64 0, .int .u64 0, .int .u64 0, .int .u64 0, .int .u64 0] [(0, 1, I .u64 (e.i.toNat : Int)), (1, 1, I .u64 (e.t.toNat : Int)), (2, 1, I .u64 (e.f.toNat : Int)), (3, 1, I .u64 (e.o.toNat : Int)), (4, 1, I .u64 (e.u.toNat : Int))])) =
        some (Z (.sl s6.size 0 5 (.known 5)), s6.push (.cells true (u64S (nums e)))) := by rw [ns]; rfl
    refine ⟨y, t, ?_, hf2⟩
    generalize s6.push (.cells true (u64S (nums e))) = s7 at *
    generalize R (d + 8) = r at *
    generalize (e.i.toNat : Int) = A2 at *
    generalize (e.t.toNat : Int) = A3 at *
    generalize (e.f.toNat : Int) = A4 at *
    generalize (e.o.toNat : Int) = A5 at *
    generalize (e.u.toNat : Int) = A6 at *
    generalize (e.v.toNat : Int) = A1 at *
    generalize (kb.toNat : Int) = KB at *
    have w1' : IntKind.u8.wrap 1 = KB := by rw [← c1]; exact wk
    have lq : loops (f133_l1 r 8192) 8192 [Z (.ptr s.size 0), Z y6, Z (.sl s6.size 0 5 (.known 5)), I .i64 5, I .i64 0] s7 = some (.exit 1 [Z (.ptr s.size 0), Z z], τ) := lp
    simp [nw1, l8, e2, lk, c1, w1', nw4, lv, wv, e5, ap6, hov, lk5, l0, l2, l3, l4, l5, l6, w2, w3, w4, w5, w6, nw7, lq, lx, apx, retT, allV]
  · by_cases c2 : e.k = 2
    · have ns : nums e = [e.i.toNat] := by unfold nums; rw [if_neg c1, if_pos c2]
      obtain ⟨i1, i2, _⟩ := hk2 c2
      have w2 : IntKind.u64.wrap e.i = (e.i.toNat : Int) := by rw [wrap_u64_in _ (by omega) (by omega)]; omega
      obtain ⟨z, τ, lp, hf⟩ := num 1 (by rw [ns]; rfl)
      obtain ⟨y, t, lx, apx, hf2⟩ := fin z τ hf
      have nw7 : aNew s6 (nSlice 1 (aFill [.int .u64 0] [(0, 1, I .u64 (e.i.toNat : Int))])) = some (Z (.sl s6.size 0 1 (.known 1)), s6.push (.cells true (u64S (nums e)))) := by rw [ns]; rfl
      refine ⟨y, t, ?_, hf2⟩
      generalize s6.push (.cells true (u64S (nums e))) = s7 at *
      generalize R (d + 8) = r at *
      generalize (e.i.toNat : Int) = A2 at *
      generalize (e.v.toNat : Int) = A1 at *
      generalize (kb.toNat : Int) = KB at *
      have w1' : IntKind.u8.wrap 2 = KB := by rw [← c2]; exact wk
      have lq : loops (f133_l1 r 8192) 8192 [Z (.ptr s.size 0), Z y6, Z (.sl s6.size 0 1 (.known 1)), I .i64 1, I .i64 0] s7 = some (.exit 1 [Z (.ptr s.size 0), Z z], τ) := lp
      simp [nw1, l8, e2, lk, c2, w1', nw4, lv, wv, e5, ap6, hov, lk5, l0, l2, w2, nw7, lq, lx, apx, retT, allV]
    · by_cases c4 : e.k = 4
      · have ns : nums e = [e.x.length] := by unfold nums; rw [if_neg c1, if_neg c2, if_pos c4]
        have hx := mayE_x h
        have w2 : IntKind.u64.wrap (e.x.length : Int) = (e.x.length : Int) := wrap64 _ (by omega)
        obtain ⟨z, τ, lp, hf⟩ := num 1 (by rw [ns]; rfl)
        obtain ⟨y, t, lx, apx, hf2⟩ := fin z τ hf
        have nw7 : aNew s6 (nSlice 1 (aFill [.int .u64 0] [(0, 1, I .u64 (e.x.length : Int))])) = some (Z (.sl s6.size 0 1 (.known 1)), s6.push (.cells true (u64S (nums e)))) := by rw [ns]; rfl
        refine ⟨y, t, ?_, hf2⟩
        generalize s6.push (.cells true (u64S (nums e))) = s7 at *
        generalize R (d + 8) = r at *
        generalize (e.v.toNat : Int) = A1 at *
        generalize (kb.toNat : Int) = KB at *
        have w1' : IntKind.u8.wrap 4 = KB := by rw [← c4]; exact wk
        have lq : loops (f133_l1 r 8192) 8192 [Z (.ptr s.size 0), Z y6, Z (.sl s6.size 0 1 (.known 1)), I .i64 1, I .i64 0] s7 = some (.exit 1 [Z (.ptr s.size 0), Z z], τ) := lp
        simp [nw1, l8, e2, lk, c4, w1', nw4, lv, wv, e5, ap6, hov, lk5, l0, l7, w2, nw7, lq, lx, apx, retT, allV]
      · have c3 : e.k = 3 := by omega
        have ns : nums e = [] := by unfold nums; rw [if_neg c1, if_neg c2, if_neg c4]
        obtain ⟨z, τ, lp, hf⟩ := nums_loop (x := .nils) (ns := []) (d + 7) (v0 := Z (.ptr s.size 0)) f6 (Rd.nil 1 _) (fun c hc => by cases hc) (fun n hn => by cases hn) (by simp) hacc
        rw [← ns] at hf
        obtain ⟨y, t, lx, apx, hf2⟩ := fin z τ hf
        refine ⟨y, t, ?_, hf2⟩
        simp only [Nat.add_assoc, Nat.reduceAdd] at lp
        generalize R (d + 8) = r at *
        generalize (e.v.toNat : Int) = A1 at *
        generalize (kb.toNat : Int) = KB at *
        have w1' : IntKind.u8.wrap 3 = KB := by rw [← c3]; exact wk
        have lq : loops (f133_l1 r 8192) 8192 [Z (.ptr s.size 0), Z y6, Z .nils, I .i64 0, I .i64 0] s6 = some (.exit 1 [Z (.ptr s.size 0), Z z], τ) := lp
        simp [nw1, l8, e2, lk, c3, w1', nw4, lv, wv, e5, ap6, hov, lk5, l0, lq, lx, apx, retT, allV]
end
end Go.Proofs.YtbohejffelipoaaGreatDoor


/-
  What entry.Get computes, in any store. No conditions but those named in each line.
-/
namespace Go.Proofs.YtbohejffelipoaaGreatDoor
open Go Go.Abs Go.Abs.F
set_option linter.unusedVariables false

def nxt (bs : Bs) (most at_ : Nat) (bad : Bool) : Nat × Nat × Bool := match vget bs at_ with
  | some (n, e) => (min n most, e, bad || decide (most < n))
  | none => (0, at_, true)

def getFields (bs : Bs) (c : UInt8) : Option (Ent × Bool) :=
  let p := nxt bs 1073741824 1 false
  let e0 : Ent := { ent0 with k := c.toNat, v := (p.1 : Nat) }
  if c.toNat = 1 then
    let i := nxt bs 1073741824 p.2.1 p.2.2
    let t := nxt bs 4 i.2.1 i.2.2
    let f := nxt bs 1099511627776 t.2.1 t.2.2
    let o := nxt bs 1099511627776 f.2.1 f.2.2
    let u := nxt bs 4294967295 o.2.1 o.2.2
    some ({ e0 with i := (i.1 : Nat), t := (t.1 : Nat), f := (f.1 : Nat), o := (o.1 : Nat), u := (u.1 : Nat) }, u.2.2)
  else if c.toNat = 2 then
    let i := nxt bs 1073741824 p.2.1 p.2.2
    some ({ e0 with i := (i.1 : Nat) }, i.2.2)
  else if c.toNat = 4 then
    let m := nxt bs 300 p.2.1 p.2.2
    if m.2.2 = true ∨ bs.length < m.2.1 + m.1 then none else some ({ e0 with x := (bs.drop m.2.1).take m.1 }, m.2.2)
  else some (e0, p.2.2)

def getE (bs : Bs) : Option Ent := match bs with
  | [] => none
  | c :: _ => match getFields bs c with
    | none => none
    | some (e, bad) => if bad = false ∧ putE e = some bs then some e else none

section
variable {s t : St} {x y : S} {bs cs : Bs} {i : Nat}

theorem nxt_le {bs : Bs} {most at_ : Nat} {bad : Bool} : (nxt bs most at_ bad).1 ≤ most := by
  unfold nxt
  split
  · exact Nat.min_le_right _ _
  · exact Nat.zero_le _
theorem nxt_at {bs : Bs} {most at_ : Nat} {bad : Bool} (h : at_ ≤ bs.length) : (nxt bs most at_ bad).2.1 ≤ bs.length := by
  unfold nxt
  split
  · rename_i n e he
    exact (vget_lt he).2
  · exact h

theorem beq_run (d : Nat) (h : RB s x bs) (k : RB s y cs) : R (d + 1) 122 [Z x, Z y] s = some (B (decide (bs = cs)), s) := by
  rw [f122_run]
  unfold f122
  simp [h.str, k.str]

structure Cur (s0 s : St) (x : S) (bs : Bs) (at_ : Nat) (bad : Bool) : Prop where
  gr : Gr s0 s
  ge : s0.size + 4 ≤ s.size
  c1 : s.get s0.size = some (.cells true [x])
  c2 : s.get (s0.size + 1) = some (.cells true (cE ent0))
  c4 : s.get (s0.size + 2) = some (.cells true [.int .i64 (at_ : Nat)])
  c5 : s.get (s0.size + 3) = some (.cells true [.bool bad])
  le : at_ ≤ bs.length

theorem Cur.set {s0 : St} {at_ : Nat} {bad : Bool} (h : Cur s0 s x bs at_ bad) {b : Nat} (hb : s0.size + 4 ≤ b) (hb2 : b < s.size) (v : Blk) : Cur s0 (s.set b v) x bs at_ bad :=
  ⟨⟨St.wf_set h.gr.wf hb2 _, by simpa using h.gr.2.1, fun c hc => by rw [St.get_set_ne _ _ (by omega)]; exact h.gr.2.2 c hc⟩, by simpa using h.ge, by rw [St.get_set_ne _ _ (by omega)]; exact h.c1, by rw [St.get_set_ne _ _ (by omega)]; exact h.c2,
    by rw [St.get_set_ne _ _ (by omega)]; exact h.c4, by rw [St.get_set_ne _ _ (by omega)]; exact h.c5, h.le⟩

theorem Cur.gr' {s0 : St} {at_ : Nat} {bad : Bool} (h : Cur s0 s x bs at_ bad) (g : Gr s t) : Cur s0 t x bs at_ bad := by
  have := h.ge
  exact ⟨h.gr.trans g, Nat.le_trans h.ge g.2.1, by rw [g.2.2 _ (by omega)]; exact h.c1, by rw [g.2.2 _ (by omega)]; exact h.c2, by rw [g.2.2 _ (by omega)]; exact h.c4, by rw [g.2.2 _ (by omega)]; exact h.c5, h.le⟩

theorem next_run (d : Nat) {s0 : St} {at_ : Nat} {bad : Bool} (h : Cur s0 s x bs at_ bad) (hx : RB s0 x bs) (hox : ∀ c, own x = some c → c < s0.size) (hl : bs.length ≤ 8000) (most : Nat) (hm : most < 2 ^ 63) :
    ∃ t, R (d + 2) 132 [I .u64 (most : Nat), Z (.ptr s0.size 0), Z (.ptr (s0.size + 2) 0), Z (.ptr (s0.size + 3) 0)] s = some (I .i64 ((nxt bs most at_ bad).1 : Nat), t) ∧ Cur s0 t x bs (nxt bs most at_ bad).2.1 (nxt bs most at_ bad).2.2 ∧ t.size = s.size ∧
      ∀ b, b ≠ s0.size + 2 → b ≠ s0.size + 3 → t.get b = s.get b := by
  rw [f132_run]
  unfold f132
  have hge := h.ge
  have hle := h.le
  have rx : RB s x bs := hx.gr hox h.gr
  have l1 : aLoad1 (Z (.ptr s0.size 0)) s.get = some (Z x) := aLoad1_of h.c1 rfl
  have l4 : aLoad1 (Z (.ptr (s0.size + 2) 0)) s.get = some (I .i64 (at_ : Nat)) := aLoad1_of h.c4 rfl
  have l5 : aLoad1 (Z (.ptr (s0.size + 3) 0)) s.get = some (B bad) := aLoad1_of h.c5 rfl
  have e1 := vget_run d rx (by omega) (at_ := at_) (by omega)
  obtain ⟨N, hN⟩ : ∃ N, N = nxt bs most at_ bad := ⟨_, rfl⟩
  rw [← hN]
  obtain ⟨t1, ht1⟩ : ∃ t1, t1 = s.set (s0.size + 3) (.cells true [.bool N.2.2]) := ⟨_, rfl⟩
  have st1 : aStore 1 (Z (.ptr (s0.size + 3) 0)) (B N.2.2) s = some (tt, t1) := by rw [ht1]; exact aStore1_of h.c5 (by simp)
  have c4' : t1.get (s0.size + 2) = some (.cells true [.int .i64 (at_ : Nat)]) := by rw [ht1, St.get_set_ne _ _ (by omega)]; exact h.c4
  obtain ⟨t2, ht2⟩ : ∃ t2, t2 = t1.set (s0.size + 2) (.cells true [.int .i64 (N.2.1 : Nat)]) := ⟨_, rfl⟩
  have st2 : aStore 1 (Z (.ptr (s0.size + 2) 0)) (I .i64 (N.2.1 : Nat)) t1 = some (tt, t2) := by rw [ht2]; exact aStore1_of c4' (by simp)
  have z1 : t1.size = s.size := by rw [ht1]; rfl
  have z2 : t2.size = s.size := by rw [ht2]; exact z1
  have w1 : t1.wf := by rw [ht1]; exact St.wf_set h.gr.wf (by omega) _
  have w2 : t2.wf := by rw [ht2]; exact St.wf_set w1 (by omega) _
  have keep : ∀ b, b ≠ s0.size + 2 → b ≠ s0.size + 3 → t2.get b = s.get b := fun b h1 h2 => by rw [ht2, St.get_set_ne _ _ h1, ht1, St.get_set_ne _ _ h2]
  have hN1 : N.2.1 ≤ bs.length := by rw [hN]; exact nxt_at hle
  have cur : Cur s0 t2 x bs N.2.1 N.2.2 := ⟨⟨w2, by rw [z2]; exact h.gr.2.1, fun b hb => by rw [keep b (by omega) (by omega)]; exact h.gr.2.2 b hb⟩, by omega, by rw [keep _ (by omega) (by omega)]; exact h.c1, by rw [keep _ (by omega) (by omega)]; exact h.c2,
    by rw [ht2]; exact St.get_set_same _ _ _, by rw [ht2, St.get_set_ne _ _ (by omega), ht1]; exact St.get_set_same _ _ _, hN1⟩
  refine ⟨t2, ?_, cur, z2, keep⟩
  cases hv : vget bs at_ with
  | none =>
    have hn : N = (0, at_, true) := by rw [hN]; unfold nxt; rw [hv]
    rw [hv] at e1
    simp only [vres, if_pos hle] at e1
    rw [hn] at st1 st2 ⊢
    have hmin : min (0 : Int) ((most : Nat) : Int) = 0 := by omega
    have w0 : IntKind.i64.wrap 0 = 0 := rfl
    cases bad with
    | true => simp [l1, l4, e1, aExtract, l5, gtt, st1, st2, hmin, w0]
    | false => simp [l1, l4, e1, aExtract, l5, gtt, st1, st2, hmin, w0]
  | some p =>
    obtain ⟨n, e⟩ := p
    have hn : N = (min n most, e, bad || decide (most < n)) := by rw [hN]; unfold nxt; rw [hv]
    rw [hv] at e1
    simp only [vres] at e1
    rw [hn] at st1 st2 ⊢
    have hmin : min ((n : Nat) : Int) ((most : Nat) : Int) = ((min n most : Nat) : Int) := by omega
    have wm : IntKind.i64.wrap ((min n most : Nat) : Int) = ((min n most : Nat) : Int) := wrap_in _ (by omega) (by omega)
    have cm : decide (((most : Nat) : Int) < ((n : Nat) : Int)) = decide (most < n) := decide_eq_decide.2 (by omega)
    generalize ((min n most : Nat) : Int) = M at *
    generalize ((n : Nat) : Int) = NN at *
    generalize ((most : Nat) : Int) = MM at *
    generalize decide (most < n) = dd at *
    cases bad with
    | true => simp [l1, l4, e1, aExtract, l5, gtt, st2, hmin, wm] at st1 ⊢; simp [st1, st2]
    | false => simp [l1, l4, e1, aExtract, l5, gtt, st2, hmin, wm, cm] at st1 ⊢; simp [st1, st2]

noncomputable def getTail (callf : CallF) (v42 : List T) (s43 : St) : Option (T × St) :=
  bd (aLoadN 8 (v42.getD 3 .any) s43.get) fun t71 =>
  bd2 (callf 133 [t71] s43) fun t72 s46 =>
  bd (aExtract t72 0) fun t73 =>
  bd (aExtract t72 1) fun t74 =>
  bd (aLoad1 (v42.getD 2 .any) s46.get) fun t75 =>
  bd (gT (gd t75 false) (some t74)) fun t77 =>
  bd (gT (gd t75 false) (aBin .neq t77 (I .i64 0))) fun t78 =>
  bd (aPick t75 (B true) t78) fun t79 =>
  bd (gT (gd t79 false) (some t73)) fun t81 =>
  bd (gT (gd t79 false) (aLoad1 (v42.getD 0 .any) s46.get)) fun t82 =>
  bd2 (gS (gd t79 false) s46 (callf 122 [t81, t82] s46)) fun t83 s47 =>
  bd (gT (gd t79 false) (aUn .not t83)) fun t84 =>
  bd (aPick t79 (B true) t84) fun t85 =>
  br t85 (bd (asAggT (aFill [.int .i64 0, .int .i64 0, .int .i64 0, .int .i64 0, .int .i64 0, .int .i64 0, .int .u32 0, .str []] [])) fun t86 =>
  bd2 (aStore 8 (v42.getD 1 .any) t86 s47) fun _ s48 =>
  bd (rC (aLoadN 8 (v42.getD 1 .any) s48.get) (rT (I .i64 2) (some []))) fun l49 => bd (retT l49) fun r50 =>
  some (r50, s48))
  (bd (aLoadN 8 (v42.getD 3 .any) s47.get) fun t87 =>
  bd2 (aStore 8 (v42.getD 1 .any) t87 s47) fun _ s51 =>
  bd (rC (aLoadN 8 (v42.getD 1 .any) s51.get) (rT (I .i64 0) (some []))) fun l52 => bd (retT l52) fun r53 =>
  some (r53, s51))

abbrev resE (o : Option Ent) : T := match o with
  | some e => .tup [.agg (cE e), .s (.int .i64 0)]
  | none => .tup [.agg (cE ent0), .s (.int .i64 2)]

theorem tail_run (d : Nat) {s0 : St} {at_ : Nat} {bad : Bool} {e : Ent} (h : Cur s0 s x bs at_ bad) (hx : RB s0 x bs) (hox : ∀ c, own x = some c → c < s0.size) (hz : s.size = s0.size + 5) (he : s.get (s0.size + 4) = some (.cells true (cE e))) (hw : EWf e) :
    ∃ τ, getTail (R (d + 9)) [Z (.ptr s0.size 0), Z (.ptr (s0.size + 1) 0), Z (.ptr (s0.size + 3) 0), Z (.ptr (s0.size + 4) 0)] s = some (resE (if bad = false ∧ putE e = some bs then some e else none), τ) ∧ Gr s0 τ := by
  have l8 := load8 (g := s.get) he
  unfold getTail
  have fin : ∀ u, Gr s u → aLoad1 (Z (.ptr (s0.size + 3) 0)) u.get = some (B bad) ∧ aLoad1 (Z (.ptr s0.size 0)) u.get = some (Z x) ∧ RB u x bs ∧ aLoadN 8 (Z (.ptr (s0.size + 4) 0)) u.get = some (AE e) ∧
      (∀ e', aStore 8 (Z (.ptr (s0.size + 1) 0)) (AE e') u = some (tt, u.set (s0.size + 1) (.cells true (cE e'))) ∧ aLoadN 8 (Z (.ptr (s0.size + 1) 0)) (u.set (s0.size + 1) (.cells true (cE e'))).get = some (AE e') ∧ Gr s0 (u.set (s0.size + 1) (.cells true (cE e')))) := fun u g => by
    have h' := h.gr' g
    have he' : u.get (s0.size + 4) = some (.cells true (cE e)) := by rw [g.2.2 _ (by omega)]; exact he
    refine ⟨aLoad1_of h'.c5 rfl, aLoad1_of h'.c1 rfl, hx.gr hox h'.gr, load8 he', fun e' => ⟨store8 h'.c2 rfl, load8 (St.get_set_same _ _ _), ⟨St.wf_set h'.gr.wf (by have := h'.ge; omega) _, by simpa using h'.gr.2.1, fun b hb => by rw [St.get_set_ne _ _ (by omega)]; exact h'.gr.2.2 b hb⟩⟩⟩
  cases hm : mayE e with
  | false =>
    obtain ⟨u, eu, gu⟩ := put_bad d h.gr.wf hm
    obtain ⟨f1, f2, f3, f4, f5⟩ := fin u gu
    obtain ⟨q1, q2, q3⟩ := f5 ent0
    have hp : ¬ (bad = false ∧ putE e = some bs) := fun hh => by simp [putE, hm] at hh
    rw [if_neg hp]
    refine ⟨_, ?_, q3⟩
    generalize u.set (s0.size + 1) (.cells true (cE ent0)) = u2 at *
    generalize R (d + 9) = r at *
    cases bad with
    | true => simp [l8, eu, aExtract, f1, gtt, agg8, q1, q2, rC, rT, retT, allV]
    | false => simp [l8, eu, aExtract, f1, gtt, agg8, q1, q2, rC, rT, retT, allV]
  | true =>
    obtain ⟨y, u, eu, fu⟩ := put_run d h.gr.wf hm hw
    obtain ⟨f1, f2, f3, f4, f5⟩ := fin u fu.gr
    have eq := beq_run (d + 8) fu.rd f3
    have hput : putE e = some (putB e) := by simp [putE, hm]
    simp only [Nat.add_assoc, Nat.reduceAdd] at eq
    cases bad with
    | true =>
      obtain ⟨q1, q2, q3⟩ := f5 ent0
      have hp : ¬ (true = false ∧ putE e = some bs) := fun hh => by simp at hh
      rw [if_neg hp]
      refine ⟨_, ?_, q3⟩
      generalize u.set (s0.size + 1) (.cells true (cE ent0)) = u2 at *
      generalize R (d + 9) = r at *
      simp [l8, eu, aExtract, f1, gtt, agg8, q1, q2, rC, rT, retT, allV]
    | false =>
      by_cases hb : putB e = bs
      · obtain ⟨q1, q2, q3⟩ := f5 e
        rw [if_pos ⟨rfl, by rw [hput, hb]⟩]
        rw [decide_eq_true hb] at eq
        refine ⟨_, ?_, q3⟩
        generalize u.set (s0.size + 1) (.cells true (cE e)) = u2 at *
        generalize R (d + 9) = r at *
        simp [l8, eu, aExtract, f1, f2, f4, eq, q1, q2, rC, rT, retT, allV]
      · obtain ⟨q1, q2, q3⟩ := f5 ent0
        have hp : ¬ (false = false ∧ putE e = some bs) := fun hh => by
          rw [hput] at hh
          exact hb (by simpa using hh.2)
        rw [if_neg hp]
        rw [decide_eq_false hb] at eq
        refine ⟨_, ?_, q3⟩
        generalize u.set (s0.size + 1) (.cells true (cE ent0)) = u2 at *
        generalize R (d + 9) = r at *
        simp [l8, eu, aExtract, f1, f2, eq, agg8, q1, q2, rC, rT, retT, allV]

theorem dyn_clo {callf : CallF} {f a b c : Nat} {args : List T} {σ : St} (h : callable Tryz.prog f = true) : dyn Tryz.prog callf (Z (.clo f [(a, 0), (b, 0), (c, 0)])) args σ = callf f (args ++ [Z (.ptr a 0), Z (.ptr b 0), Z (.ptr c 0)]) σ := by
  simp [dyn, h, capT]

theorem get_run (d : Nat) (wf : s.wf) (hx : RB s x bs) (hox : ∀ c, own x = some c → c < s.size) (hl : bs.length ≤ 8000) : ∃ τ, R (d + 10) 94 [Z x] s = some (resE (getE bs), τ) ∧ Gr s τ := by
  rw [f94_run]
  unfold f94
  obtain ⟨n, hn⟩ : ∃ n, n = s.size := ⟨_, rfl⟩
  obtain ⟨s1, hs1⟩ : ∃ s1, s1 = s.push (.cells true [x]) := ⟨_, rfl⟩
  have nw1 : aNew s (nBox (Z x)) = some (Z (.ptr n 0), s1) := by rw [hs1, hn]; rfl
  have g1 : Gr s s1 := by rw [hs1]; exact Gr.push wf _
  have z1 : s1.size = n + 1 := by rw [hs1, hn]; rfl
  have b1 : s1.get n = some (.cells true [x]) := by rw [hs1, hn]; exact St.get_push_same _ _
  obtain ⟨s2, hs2⟩ : ∃ s2, s2 = s1.push (.cells true (cE ent0)) := ⟨_, rfl⟩
  have nw2 : aNew s1 (nCells [.int .i64 0, .int .i64 0, .int .i64 0, .int .i64 0, .int .i64 0, .int .i64 0, .int .u32 0, .str []]) = some (Z (.ptr (n + 1) 0), s2) := by rw [hs2, ← z1]; rfl
  have g2 : Gr s1 s2 := by rw [hs2]; exact Gr.push g1.wf _
  have z2 : s2.size = n + 2 := by rw [hs2]; simp [z1]
  have b2 : s2.get (n + 1) = some (.cells true (cE ent0)) := by rw [hs2, ← z1]; exact St.get_push_same _ _
  have b1' : s2.get n = some (.cells true [x]) := by rw [g2.2.2 n (by omega)]; exact b1
  have ld1 : aLoad1 (Z (.ptr n 0)) s2.get = some (Z x) := aLoad1_of b1' rfl
  have hlen := hx.lenB
  cases hbs : bs with
  | nil =>
    rw [hbs] at hlen
    have st := store8 (e := ent0) b2 rfl
    have ld := load8 (g := (s2.set (n + 1) (.cells true (cE ent0))).get) (i := n + 1) (e := ent0) (St.get_set_same _ _ _)
    refine ⟨s2.set (n + 1) (.cells true (cE ent0)), ?_, ⟨St.wf_set g2.wf (by omega) _, by simp; omega, fun b hb => by rw [St.get_set_ne _ _ (by omega), g2.2.2 b (by omega), g1.2.2 b hb]⟩⟩
    generalize s2.set (n + 1) (.cells true (cE ent0)) = s3 at *
    simp [nw1, nw2, ld1, hlen, agg8, st, ld, rC, rT, retT, allV, getE]
  | cons c0 rest =>
    have hpos : 0 < bs.length := by rw [hbs]; simp
    obtain ⟨s6, hs6⟩ : ∃ s6, s6 = s2.push (.cells true [.int .i64 0]) := ⟨_, rfl⟩
    have nw6 : aNew s2 (nCells [.int .i64 0]) = some (Z (.ptr (n + 2) 0), s6) := by rw [hs6, ← z2]; rfl
    have g6 : Gr s2 s6 := by rw [hs6]; exact Gr.push g2.wf _
    have z6 : s6.size = n + 3 := by rw [hs6]; simp [z2]
    have b6 : s6.get (n + 2) = some (.cells true [.int .i64 0]) := by rw [hs6, ← z2]; exact St.get_push_same _ _
    obtain ⟨s7, hs7⟩ : ∃ s7, s7 = s6.push (.cells true [.bool false]) := ⟨_, rfl⟩
    have nw7 : aNew s6 (nCells [.bool false]) = some (Z (.ptr (n + 3) 0), s7) := by rw [hs7, ← z6]; rfl
    have g7 : Gr s6 s7 := by rw [hs7]; exact Gr.push g6.wf _
    have z7 : s7.size = n + 4 := by rw [hs7]; simp [z6]
    have b7 : s7.get (n + 3) = some (.cells true [.bool false]) := by rw [hs7, ← z6]; exact St.get_push_same _ _
    have b6' : s7.get (n + 2) = some (.cells true [.int .i64 0]) := by rw [g7.2.2 _ (by omega)]; exact b6
    obtain ⟨s8, hs8⟩ : ∃ s8, s8 = s7.set (n + 2) (.cells true [.int .i64 1]) := ⟨_, rfl⟩
    have st8 : aStore 1 (Z (.ptr (n + 2) 0)) (I .i64 1) s7 = some (tt, s8) := by rw [hs8]; exact aStore1_of b6' (by simp)
    have b7' : s8.get (n + 3) = some (.cells true [.bool false]) := by rw [hs8, St.get_set_ne _ _ (by omega)]; exact b7
    obtain ⟨s9, hs9⟩ : ∃ s9, s9 = s8.set (n + 3) (.cells true [.bool false]) := ⟨_, rfl⟩
    have st9 : aStore 1 (Z (.ptr (n + 3) 0)) (B false) s8 = some (tt, s9) := by rw [hs9]; exact aStore1_of b7' (by simp)
    have z9 : s9.size = n + 4 := by rw [hs9, hs8]; simpa using z7
    have wf8 : s8.wf := by rw [hs8]; exact St.wf_set g7.wf (by omega) _
    have wf9 : s9.wf := by rw [hs9]; exact St.wf_set wf8 (by rw [hs8]; simp [z7]) _
    have old9 : ∀ b, b < n + 2 → s9.get b = s2.get b := fun b hb => by rw [hs9, St.get_set_ne _ _ (by omega), hs8, St.get_set_ne _ _ (by omega), g7.2.2 b (by omega), g6.2.2 b (by omega)]
    have cur9 : Cur s s9 x bs 1 false := by
      refine ⟨⟨wf9, by omega, fun b hb => by rw [old9 b (by omega), g2.2.2 b (by omega), g1.2.2 b hb]⟩, by omega, by rw [← hn, old9 _ (by omega)]; exact b1', by rw [← hn, old9 _ (by omega)]; exact b2, ?_, by rw [← hn, hs9]; exact St.get_set_same _ _ _, by omega⟩
      rw [← hn, hs9, St.get_set_ne _ _ (by omega), hs8]
      exact St.get_set_same _ _ _
    have ld9 : aLoad1 (Z (.ptr n 0)) s9.get = some (Z x) := by rw [hn]; exact aLoad1_of cur9.c1 rfl
    have rx9 : RB s9 x bs := hx.gr hox cur9.gr
    have hc0 : bs[0]? = some c0 := by rw [hbs]; rfl
    obtain ⟨p0, ix0, lp0⟩ := RB.atB rx9 (n := 0) (j := 0) rfl hc0
    have clo : aClo 132 [Z (.ptr n 0), Z (.ptr (n + 2) 0), Z (.ptr (n + 3) 0)] [] = some (Z (.clo 132 [(n, 0), (n + 2, 0), (n + 3, 0)])) := rfl
    have hcal : callable Tryz.prog 132 = true := by kernel_rfl
    have dy : ∀ (r : CallF) (m : Int) (u : St), dyn Tryz.prog r (Z (.clo 132 [(n, 0), (n + 2, 0), (n + 3, 0)])) [I .u64 m] u = r 132 [I .u64 m, Z (.ptr n 0), Z (.ptr (n + 2) 0), Z (.ptr (n + 3) 0)] u := fun r m u => dyn_clo hcal
    have nxr : ∀ (u : St) (a : Nat) (bad : Bool) (most : Nat), Cur s u x bs a bad → most < 2 ^ 63 → ∃ t, R (d + 9) 132 [I .u64 (most : Nat), Z (.ptr n 0), Z (.ptr (n + 2) 0), Z (.ptr (n + 3) 0)] u = some (I .i64 ((nxt bs most a bad).1 : Nat), t) ∧ Cur s t x bs (nxt bs most a bad).2.1 (nxt bs most a bad).2.2 ∧ t.size = u.size ∧
        ∀ b, b ≠ n + 2 → b ≠ n + 3 → t.get b = u.get b := fun u a bad most hc hm => by
      have := next_run (d + 7) hc hx hox hl most hm
      rw [← hn] at this
      exact this
    obtain ⟨s10, e10, cur10, z10, k10⟩ := nxr s9 1 false 1073741824 cur9 (by decide)
    obtain ⟨P, hP⟩ : ∃ P, P = nxt bs 1073741824 1 false := ⟨_, rfl⟩
    rw [← hP] at e10 cur10
    obtain ⟨s11, hs11⟩ : ∃ s11, s11 = s10.push (.cells true (cE ent0)) := ⟨_, rfl⟩
    have nw11 : aNew s10 (nCells [.int .i64 0, .int .i64 0, .int .i64 0, .int .i64 0, .int .i64 0, .int .i64 0, .int .u32 0, .str []]) = some (Z (.ptr (n + 4) 0), s11) := by rw [hs11, show n + 4 = s10.size by omega]; rfl
    have g11 : Gr s10 s11 := by rw [hs11]; exact Gr.push cur10.gr.wf _
    have z11 : s11.size = n + 5 := by rw [hs11]; simp; omega
    have b11 : s11.get (n + 4) = some (.cells true (cE ent0)) := by rw [hs11, show n + 4 = s10.size by omega]; exact St.get_push_same _ _
    obtain ⟨e0, he0⟩ : ∃ e0 : Ent, e0 = { ent0 with k := c0.toNat, v := (P.1 : Nat) } := ⟨_, rfl⟩
    have ag0 : asAggT (aFill [.int .i64 0, .int .i64 0, .int .i64 0, .int .i64 0, .int .i64 0, .int .i64 0, .int .u32 0, .str []] [(0, 1, I .i64 (c0.toNat : Int)), (1, 1, I .i64 ((P.1 : Nat) : Int))]) = some (AE e0) := by rw [he0]; rfl
    obtain ⟨s12, hs12⟩ : ∃ s12, s12 = s11.set (n + 4) (.cells true (cE e0)) := ⟨_, rfl⟩
    have st12 := store8 (e := e0) b11 rfl
    rw [← hs12] at st12
    have cur12 : Cur s s12 x bs P.2.1 P.2.2 := by rw [hs12]; exact (cur10.gr' g11).set (by omega) (by omega) _
    have z12 : s12.size = n + 5 := by rw [hs12]; simpa using z11
    have b12 : s12.get (n + 4) = some (.cells true (cE e0)) := by rw [hs12]; exact St.get_set_same _ _ _
    have hupd : ∀ (q : T) (v : S), aLoad1 q s9.get = some (Z v) → (∀ b o, q = Z (.ptr b o) → b < s.size ∨ b = n) → aLoad1 q (updM s10.get s10.size (.cells true [.int .i64 0, .int .i64 0, .int .i64 0, .int .i64 0, .int .i64 0, .int .i64 0, .int .u32 0, .str []])) = aLoad1 q s9.get := by
      intro q v hq hb
      cases q with
      | any => cases hq
      | tup _ => cases hq
      | v w => cases w with
        | agg _ => cases hq
        | s w => cases w with
          | ptr b o =>
            have hb' := hb b o rfl
            have e1 : updM s10.get s10.size (.cells true [.int .i64 0, .int .i64 0, .int .i64 0, .int .i64 0, .int .i64 0, .int .i64 0, .int .u32 0, .str []]) b = s9.get b := by
              rw [updM_ne _ _ (by omega)]
              exact k10 b (by omega) (by omega)
            simp only [aLoad1, e1]
          | _ => cases hq
    have ck1 := hupd (Z (.ptr n 0)) x ld9 (fun b o e => by cases e; exact .inr rfl)
    have ck2 := hupd p0 (.int .u8 c0.toNat) lp0 (fun b o e => by
      subst e
      rcases rx9.rd with ⟨h0, _⟩ | ⟨c, o', cap, w, rows, rfl, _⟩
      · omega
      · have h2 := hox c rfl
        simp only [aIndexSl] at ix0
        split at ix0
        · cases ix0; exact .inl h2
        · cases ix0)
    have hkind : aLoad1 (Z (.ptr (n + 4) 0)) s12.get = some (I .i64 (c0.toNat : Int)) := aLoad1_of b12 (by rw [he0]; rfl)
    have w0 : IntKind.i64.wrap (c0.toNat : Int) = (c0.toNat : Int) := wrap_in _ (by have := c0.toNat_lt; omega) (by have := c0.toNat_lt; omega)
    have hne : ¬ ((bs.length : Int) = 0) := by omega
    have hget : getE bs = match getFields bs c0 with
      | none => none
      | some (e, bad) => if bad = false ∧ putE e = some bs then some e else none := by rw [hbs]; rfl
    rw [← hbs, hget]
    have nxq : ∀ (u : St) (a : Nat) (bad : Bool) (e : Ent) (most : Nat), (Cur s u x bs a bad ∧ u.size = n + 5 ∧ u.get (n + 4) = some (.cells true (cE e))) → most < 2 ^ 63 → ∃ t, R (d + 9) 132 [I .u64 (most : Nat), Z (.ptr n 0), Z (.ptr (n + 2) 0), Z (.ptr (n + 3) 0)] u = some (I .i64 ((nxt bs most a bad).1 : Nat), t) ∧
        (Cur s t x bs (nxt bs most a bad).2.1 (nxt bs most a bad).2.2 ∧ t.size = n + 5 ∧ t.get (n + 4) = some (.cells true (cE e))) := fun u a bad e most hq hm => by
      obtain ⟨t, e1, c1, z, k⟩ := nxr u a bad most hq.1 hm
      exact ⟨t, e1, c1, by rw [z]; exact hq.2.1, by rw [k _ (by omega) (by omega)]; exact hq.2.2⟩
    have stq : ∀ (u : St) (a : Nat) (bad : Bool) (e e' : Ent) (off : Nat) (val : S), (Cur s u x bs a bad ∧ u.size = n + 5 ∧ u.get (n + 4) = some (.cells true (cE e))) → setRange (cE e) off [val] = cE e' → off < 8 → ∃ t, aStore 1 (Z (.ptr (n + 4) off)) (Z val) u = some (tt, t) ∧
        (Cur s t x bs a bad ∧ t.size = n + 5 ∧ t.get (n + 4) = some (.cells true (cE e'))) := fun u a bad e e' off val hq hs ho => by
      have st := aStore1_of (x := val) hq.2.2 (by simpa [cE] using ho)
      rw [hs] at st
      exact ⟨_, st, hq.1.set (by omega) (by have := hq.2.1; omega) _, by simpa using hq.2.1, St.get_set_same _ _ _⟩
    have finq : ∀ (u : St) (a : Nat) (bad : Bool) (e : Ent), (Cur s u x bs a bad ∧ u.size = n + 5 ∧ u.get (n + 4) = some (.cells true (cE e))) → EWf e → ∃ τ, getTail (R (d + 9)) [Z (.ptr n 0), Z (.ptr (n + 1) 0), Z (.ptr (n + 3) 0), Z (.ptr (n + 4) 0)] u = some (resE (if bad = false ∧ putE e = some bs then some e else none), τ) ∧ Gr s τ := fun u a bad e hq hw => by
      have := tail_run d hq.1 hx hox (by rw [← hn]; exact hq.2.1) (by rw [← hn]; exact hq.2.2) hw
      rw [← hn] at this
      exact this
    have q12 : Cur s s12 x bs P.2.1 P.2.2 ∧ s12.size = n + 5 ∧ s12.get (n + 4) = some (.cells true (cE e0)) := ⟨cur12, z12, b12⟩
    have hw0 : EWf e0 := by rw [he0]; exact ⟨Int.le_refl 0, (by decide : (0 : Int) < 4294967296)⟩
    obtain ⟨C, hC⟩ : ∃ C, C = (c0.toNat : Int) := ⟨_, rfl⟩
    rw [← hC] at lp0 ag0 hkind w0
    simp only [aLenSl] at hlen
    have hlen' := hx.lenB
    have hnd : ¬ bs = [] := fun e => by rw [e] at hpos; simp at hpos
    by_cases k1 : c0.toNat = 1
    · have d1 : decide (C = 1) = true := decide_eq_true (by omega)
      obtain ⟨s13, e13, q13⟩ := nxq s12 _ _ _ 1073741824 q12 (by decide)
      obtain ⟨I1, hI1⟩ : ∃ I1, I1 = nxt bs 1073741824 P.2.1 P.2.2 := ⟨_, rfl⟩
      rw [← hI1] at e13 q13
      obtain ⟨s14, e14, q14⟩ := nxq s13 _ _ _ 4 q13 (by decide)
      obtain ⟨T1, hT1⟩ : ∃ T1, T1 = nxt bs 4 I1.2.1 I1.2.2 := ⟨_, rfl⟩
      rw [← hT1] at e14 q14
      obtain ⟨s15, e15, q15⟩ := stq s14 _ _ _ { e0 with i := (I1.1 : Nat) } 2 (.int .i64 (I1.1 : Nat)) q14 rfl (by omega)
      obtain ⟨s16, e16, q16⟩ := stq s15 _ _ _ { e0 with i := (I1.1 : Nat), t := (T1.1 : Nat) } 3 (.int .i64 (T1.1 : Nat)) q15 rfl (by omega)
      obtain ⟨s17, e17, q17⟩ := nxq s16 _ _ _ 1099511627776 q16 (by decide)
      obtain ⟨F1, hF1⟩ : ∃ F1, F1 = nxt bs 1099511627776 T1.2.1 T1.2.2 := ⟨_, rfl⟩
      rw [← hF1] at e17 q17
      obtain ⟨s18, e18, q18⟩ := nxq s17 _ _ _ 1099511627776 q17 (by decide)
      obtain ⟨O1, hO1⟩ : ∃ O1, O1 = nxt bs 1099511627776 F1.2.1 F1.2.2 := ⟨_, rfl⟩
      rw [← hO1] at e18 q18
      obtain ⟨s19, e19, q19⟩ := stq s18 _ _ _ { e0 with i := (I1.1 : Nat), t := (T1.1 : Nat), f := (F1.1 : Nat) } 4 (.int .i64 (F1.1 : Nat)) q18 rfl (by omega)
      obtain ⟨s20, e20, q20⟩ := stq s19 _ _ _ { e0 with i := (I1.1 : Nat), t := (T1.1 : Nat), f := (F1.1 : Nat), o := (O1.1 : Nat) } 5 (.int .i64 (O1.1 : Nat)) q19 rfl (by omega)
      obtain ⟨s21, e21, q21⟩ := nxq s20 _ _ _ 4294967295 q20 (by decide)
      obtain ⟨U1, hU1⟩ : ∃ U1, U1 = nxt bs 4294967295 O1.2.1 O1.2.2 := ⟨_, rfl⟩
      have hUl : U1.1 ≤ 4294967295 := by rw [hU1]; exact nxt_le
      rw [← hU1] at e21 q21
      have wU : IntKind.u32.wrap (U1.1 : Int) = (U1.1 : Int) := by rw [wrap32]; omega
      obtain ⟨s22, e22, q22⟩ := stq s21 _ _ _ { e0 with i := (I1.1 : Nat), t := (T1.1 : Nat), f := (F1.1 : Nat), o := (O1.1 : Nat), u := (U1.1 : Nat) } 6 (.int .u32 (U1.1 : Nat)) q21 rfl (by omega)
      obtain ⟨τ, et, gt⟩ := finq s22 _ _ _ q22 ⟨by show (0 : Int) ≤ (U1.1 : Nat); omega, by show ((U1.1 : Nat) : Int) < 4294967296; omega⟩
      have hres : getFields bs c0 = some ({ e0 with i := (I1.1 : Nat), t := (T1.1 : Nat), f := (F1.1 : Nat), o := (O1.1 : Nat), u := (U1.1 : Nat) }, U1.2.2) := by
        unfold getFields
        rw [if_pos k1]
        simp only [← hP, ← hI1, ← hT1, ← hF1, ← hO1, ← hU1, he0]
      rw [hres]
      refine ⟨τ, ?_, gt⟩
      clear nxq stq finq nxr hupd q13 q14 q15 q16 q17 q18 q19 q20 q21 q22
      generalize resE (if U1.2.2 = false ∧ putE { e0 with i := (I1.1 : Nat), t := (T1.1 : Nat), f := (F1.1 : Nat), o := (O1.1 : Nat), u := (U1.1 : Nat) } = some bs then some { e0 with i := (I1.1 : Nat), t := (T1.1 : Nat), f := (F1.1 : Nat), o := (O1.1 : Nat), u := (U1.1 : Nat) } else none) = RES at *
      unfold getTail at et
      generalize R (d + 9) = r at *
      generalize ((P.1 : Nat) : Int) = PV at *
      generalize ((I1.1 : Nat) : Int) = IV at *
      generalize ((T1.1 : Nat) : Int) = TV at *
      generalize ((F1.1 : Nat) : Int) = FV at *
      generalize ((O1.1 : Nat) : Int) = OV at *
      generalize ((U1.1 : Nat) : Int) = UV at *
      have e10' : r 132 [I .u64 1073741824, Z (.ptr n 0), Z (.ptr (n + 2) 0), Z (.ptr (n + 3) 0)] s9 = some (I .i64 PV, s10) := e10
      have e13' : r 132 [I .u64 1073741824, Z (.ptr n 0), Z (.ptr (n + 2) 0), Z (.ptr (n + 3) 0)] s12 = some (I .i64 IV, s13) := e13
      have e14' : r 132 [I .u64 4, Z (.ptr n 0), Z (.ptr (n + 2) 0), Z (.ptr (n + 3) 0)] s13 = some (I .i64 TV, s14) := e14
      have e17' : r 132 [I .u64 1099511627776, Z (.ptr n 0), Z (.ptr (n + 2) 0), Z (.ptr (n + 3) 0)] s16 = some (I .i64 FV, s17) := e17
      have e18' : r 132 [I .u64 1099511627776, Z (.ptr n 0), Z (.ptr (n + 2) 0), Z (.ptr (n + 3) 0)] s17 = some (I .i64 OV, s18) := e18
      have e21' : r 132 [I .u64 4294967295, Z (.ptr n 0), Z (.ptr (n + 2) 0), Z (.ptr (n + 3) 0)] s20 = some (I .i64 UV, s21) := e21
      simpa [nw1, nw2, ld1, hlen', hnd, nw6, nw7, st8, st9, clo, ld9, ix0, lp0, w0, dy, e10', ag0, nw11, st12, ck1, ck2, hkind, d1, e13', e14', e15, e16, e17', e18', e19, e20, e21', wU, e22] using et
    · have d1 : decide (C = 1) = false := decide_eq_false (by omega)
      by_cases k2 : c0.toNat = 2
      · have d2 : decide (C = 2) = true := decide_eq_true (by omega)
        obtain ⟨s13, e13, q13⟩ := nxq s12 _ _ _ 1073741824 q12 (by decide)
        obtain ⟨I1, hI1⟩ : ∃ I1, I1 = nxt bs 1073741824 P.2.1 P.2.2 := ⟨_, rfl⟩
        rw [← hI1] at e13 q13
        obtain ⟨s14, e14, q14⟩ := stq s13 _ _ _ { e0 with i := (I1.1 : Nat) } 2 (.int .i64 (I1.1 : Nat)) q13 rfl (by omega)
        obtain ⟨τ, et, gt⟩ := finq s14 _ _ _ q14 hw0
        have hres : getFields bs c0 = some ({ e0 with i := (I1.1 : Nat) }, I1.2.2) := by
          unfold getFields
          rw [if_neg k1, if_pos k2]
          simp only [← hP, ← hI1, he0]
        rw [hres]
        refine ⟨τ, ?_, gt⟩
        clear nxq stq finq nxr hupd q13 q14
        generalize resE (if I1.2.2 = false ∧ putE { e0 with i := (I1.1 : Nat) } = some bs then some { e0 with i := (I1.1 : Nat) } else none) = RES at *
        unfold getTail at et
        generalize R (d + 9) = r at *
        generalize ((P.1 : Nat) : Int) = PV at *
        generalize ((I1.1 : Nat) : Int) = IV at *
        have e10' : r 132 [I .u64 1073741824, Z (.ptr n 0), Z (.ptr (n + 2) 0), Z (.ptr (n + 3) 0)] s9 = some (I .i64 PV, s10) := e10
        have e13' : r 132 [I .u64 1073741824, Z (.ptr n 0), Z (.ptr (n + 2) 0), Z (.ptr (n + 3) 0)] s12 = some (I .i64 IV, s13) := e13
        simpa [nw1, nw2, ld1, hlen', hnd, nw6, nw7, st8, st9, clo, ld9, ix0, lp0, w0, dy, e10', ag0, nw11, st12, ck1, ck2, hkind, d1, d2, e13', e14] using et
      · have d2 : decide (C = 2) = false := decide_eq_false (by omega)
        by_cases k4 : c0.toNat = 4
        · have d4 : decide (C = 4) = true := decide_eq_true (by omega)
          obtain ⟨s13, e13, q13⟩ := nxq s12 _ _ _ 300 q12 (by decide)
          obtain ⟨M1, hM1⟩ : ∃ M1, M1 = nxt bs 300 P.2.1 P.2.2 := ⟨_, rfl⟩
          have hMl : M1.1 ≤ 300 := by rw [hM1]; exact nxt_le
          rw [← hM1] at e13 q13
          have hat := q13.1.le
          have lb : aLoad1 (Z (.ptr (n + 3) 0)) s13.get = some (B M1.2.2) := by rw [hn]; exact aLoad1_of q13.1.c5 rfl
          have lx : aLoad1 (Z (.ptr n 0)) s13.get = some (Z x) := by rw [hn]; exact aLoad1_of q13.1.c1 rfl
          have la : aLoad1 (Z (.ptr (n + 2) 0)) s13.get = some (I .i64 (M1.2.1 : Nat)) := by rw [hn]; exact aLoad1_of q13.1.c4 rfl
          have l2 : s13.get (n + 1) = some (.cells true (cE ent0)) := by rw [hn]; exact q13.1.c2
          have wsub : IntKind.i64.wrap ((bs.length : Int) - ((M1.2.1 : Nat) : Int)) = (bs.length : Int) - ((M1.2.1 : Nat) : Int) := wrap_in _ (by omega) (by omega)
          have wadd : IntKind.i64.wrap (((M1.2.1 : Nat) : Int) + ((M1.1 : Nat) : Int)) = ((M1.2.1 + M1.1 : Nat) : Int) := by rw [wrap_in _ (by omega) (by omega)]; omega
          have e10' : R (d + 9) 132 [I .u64 1073741824, Z (.ptr n 0), Z (.ptr (n + 2) 0), Z (.ptr (n + 3) 0)] s9 = some (I .i64 ((P.1 : Nat) : Int), s10) := e10
          have e13' : R (d + 9) 132 [I .u64 300, Z (.ptr n 0), Z (.ptr (n + 2) 0), Z (.ptr (n + 3) 0)] s12 = some (I .i64 ((M1.1 : Nat) : Int), s13) := e13
          by_cases hbad : M1.2.2 = true ∨ bs.length < M1.2.1 + M1.1
          · have hres : getFields bs c0 = none := by
              unfold getFields
              rw [if_neg k1, if_neg k2, if_pos k4]
              simp only [← hP, ← hM1]
              rw [if_pos hbad]
            rw [hres]
            have st := store8 (e := ent0) l2 rfl
            have ld := load8 (g := (s13.set (n + 1) (.cells true (cE ent0))).get) (i := n + 1) (e := ent0) (St.get_set_same _ _ _)
            refine ⟨s13.set (n + 1) (.cells true (cE ent0)), ?_, ⟨St.wf_set q13.1.gr.wf (by have := q13.2.1; omega) _, by simpa using q13.1.gr.2.1, fun b hb => by rw [St.get_set_ne _ _ (by omega)]; exact q13.1.gr.2.2 b hb⟩⟩
            clear nxq stq finq nxr hupd q13
            generalize s13.set (n + 1) (.cells true (cE ent0)) = s14 at *
            generalize R (d + 9) = r at *
            cases hb2 : M1.2.2 with
            | true =>
              rw [hb2] at lb
              generalize ((P.1 : Nat) : Int) = PV at *
              generalize ((M1.1 : Nat) : Int) = MV at *
              simp [nw1, nw2, ld1, hlen', hnd, nw6, nw7, st8, st9, clo, ld9, ix0, lp0, w0, dy, e10', ag0, nw11, st12, ck1, ck2, hkind, d1, d2, d4, e13', lb, gtt, agg8, st, ld, rC, rT, retT, allV]
            | false =>
              rw [hb2] at lb hbad
              have hgt : (bs.length : Int) - ((M1.2.1 : Nat) : Int) < ((M1.1 : Nat) : Int) := by
                rcases hbad with h | h
                · cases h
                · omega
              have dgt : decide ((bs.length : Int) - ((M1.2.1 : Nat) : Int) < ((M1.1 : Nat) : Int)) = true := decide_eq_true hgt
              generalize ((P.1 : Nat) : Int) = PV at *
              generalize ((M1.1 : Nat) : Int) = MV at *
              generalize ((M1.2.1 : Nat) : Int) = AV at *
              simp [nw1, nw2, ld1, hlen', hnd, nw6, nw7, st8, st9, clo, ld9, ix0, lp0, w0, dy, e10', ag0, nw11, st12, ck1, ck2, hkind, d1, d2, d4, e13', lb, lx, la, wsub, hgt, agg8, st, ld, rC, rT, retT, allV]
          · have hb2 : M1.2.2 = false := by
              cases h : M1.2.2 with
              | false => rfl
              | true => exact absurd (.inl h) hbad
            have hle : M1.2.1 + M1.1 ≤ bs.length := by
              apply Nat.le_of_not_lt
              exact fun h => hbad (.inr h)
            have hgt : ¬ ((bs.length : Int) - ((M1.2.1 : Nat) : Int) < ((M1.1 : Nat) : Int)) := by omega
            rw [hb2] at lb
            have rx13 : RB s13 x bs := hx.gr hox q13.1.gr
            obtain ⟨y, pc, ry, _⟩ := rx13.piece (lo := M1.2.1) (hi := M1.2.1 + M1.1) (by omega) hle
            have hpl : M1.2.1 + M1.1 - M1.2.1 = M1.1 := by omega
            rw [hpl, Nat.mul_one, Nat.mul_one, U_drop, U_take] at ry
            have ry' : RB s13 y ((bs.drop M1.2.1).take M1.1) := by
              have : ((bs.drop M1.2.1).take M1.1).length = M1.1 := by rw [List.length_take, List.length_drop]; omega
              unfold RB
              rw [this]
              exact ry
            have hstr := ry'.str
            obtain ⟨s14, e14, q14⟩ := stq s13 _ _ _ { e0 with x := (bs.drop M1.2.1).take M1.1 } 7 (.str ((bs.drop M1.2.1).take M1.1)) q13 rfl (by omega)
            obtain ⟨τ, et, gt⟩ := finq s14 _ _ _ q14 hw0
            have hres : getFields bs c0 = some ({ e0 with x := (bs.drop M1.2.1).take M1.1 }, M1.2.2) := by
              unfold getFields
              rw [if_neg k1, if_neg k2, if_pos k4]
              simp only [← hP, ← hM1]
              rw [if_neg hbad, he0]
            rw [hres]
            refine ⟨τ, ?_, gt⟩
            clear nxq stq finq nxr hupd q13 q14
            generalize resE (if M1.2.2 = false ∧ putE { e0 with x := (bs.drop M1.2.1).take M1.1 } = some bs then some { e0 with x := (bs.drop M1.2.1).take M1.1 } else none) = RES at *
            unfold getTail at et
            generalize R (d + 9) = r at *
            generalize (bs.drop M1.2.1).take M1.1 = XX at *
            generalize ((P.1 : Nat) : Int) = PV at *
            generalize ((M1.2.1 + M1.1 : Nat) : Int) = BV at *
            generalize ((M1.1 : Nat) : Int) = MV at *
            generalize ((M1.2.1 : Nat) : Int) = AV at *
            simpa [nw1, nw2, ld1, hlen', hnd, nw6, nw7, st8, st9, clo, ld9, ix0, lp0, w0, dy, e10', ag0, nw11, st12, ck1, ck2, hkind, d1, d2, d4, e13', lb, lx, la, wsub, hgt, wadd, pc, hstr, e14] using et
        · have d4 : decide (C = 4) = false := decide_eq_false (by omega)
          obtain ⟨τ, et, gt⟩ := finq s12 _ _ _ q12 hw0
          have hres : getFields bs c0 = some (e0, P.2.2) := by
            unfold getFields
            rw [if_neg k1, if_neg k2, if_neg k4]
            simp only [← hP, he0]
          rw [hres]
          refine ⟨τ, ?_, gt⟩
          clear nxq stq finq nxr hupd
          generalize resE (if P.2.2 = false ∧ putE e0 = some bs then some e0 else none) = RES at *
          unfold getTail at et
          generalize R (d + 9) = r at *
          generalize ((P.1 : Nat) : Int) = PV at *
          have e10' : r 132 [I .u64 1073741824, Z (.ptr n 0), Z (.ptr (n + 2) 0), Z (.ptr (n + 3) 0)] s9 = some (I .i64 PV, s10) := e10
          simpa [nw1, nw2, ld1, hlen', hnd, nw6, nw7, st8, st9, clo, ld9, ix0, lp0, w0, dy, e10', ag0, nw11, st12, ck1, ck2, hkind, d1, d2, d4] using et
end
end Go.Proofs.YtbohejffelipoaaGreatDoor


/-
  Frames: what log.Wrap, Open, Frame, All, Read, Meet and Front compute, in any store. No conditions but those named in each line.
-/
namespace Go.Proofs.YtbohejffelipoaaGreatDoor
open Go Go.Abs Go.Abs.F
set_option linter.unusedVariables false

theorem sumB_append (n : Nat) : ∀ a b : Bs, sumB n (a ++ b) = sumB (sumB n a) b
  | [], b => rfl
  | c :: a, b => sumB_append _ a b

def wrapB (bs : Bs) : Bs := vput bs.length ++ four (sumB 1 (vput bs.length ++ bs)) ++ bs
def openB (bs : Bs) (at_ : Nat) : Option (Bs × Nat) := match vget bs at_ with
  | none => none
  | some (n, to) => if bs.length < to + 4 ∨ bs.length - to - 4 < n then none else
    if (bs.drop at_).take (to + 4 + n - at_) = wrapB ((bs.drop (to + 4)).take n) then some ((bs.drop (to + 4)).take n, to + 4 + n) else none
def frameE (e : Ent) : Option Bs := if mayE e then some (wrapB (putB e)) else none
def framesB : List Ent → Bs
  | [] => []
  | e :: r => wrapB (putB e) ++ framesB r
def readL (bs : Bs) : Nat → Nat → List Ent → List Ent × Nat
  | 0, at_, acc => (acc, at_)
  | f + 1, at_, acc => match openB bs at_ with
    | none => (acc, at_)
    | some (x, to) => match getE x with
      | none => (acc, at_)
      | some e => readL bs f to (acc ++ [e])
def readP (bs : Bs) : List Ent × Nat := readL bs 2000 0 []
abbrev RE (s : St) (x : S) (l : List Ent) : Prop := Rd 8 s x l.length (cells cE l)
abbrev FE (s0 s : St) (x : S) (l : List Ent) : Prop := Fr 8 s0 s x l.length (cells cE l)

section
variable {s t : St} {x y : S} {bs cs : Bs} {i : Nat} {l m : List Ent}

theorem RE.atE (h : RE s x l) {j : Nat} {n : Int} {e : Ent} (hn : n = j) (he : l[j]? = some e) : ∃ p, aIndexSl 8 (Z x) (I .i64 n) = some p ∧ aLoadN 8 p s.get = some (AE e) := by
  obtain ⟨c, p, h1, _, h3⟩ := Rd.at h hn (List.getElem?_eq_some_iff.1 he).1
  rw [cells_row cE_len he] at h3
  exact ⟨_, h1, h3⟩

theorem FE.lit {s0 : St} {e : Ent} (h : FE s0 s x l) (hl : l.length ≤ 1000000) :
    ∃ x' t s', aNew s (nSlice 1 (aFill [.int .i64 0, .int .i64 0, .int .i64 0, .int .i64 0, .int .i64 0, .int .i64 0, .int .u32 0, .str []] [(0, 8, AE e)])) = some (Z (.sl s.size 0 1 (.known 1)), s') ∧ aAppend 8 72 (Z x) (Z (.sl s.size 0 1 (.known 1))) s' = some (Z x', t) ∧ FE s0 t x' (l ++ [e]) ∧ s.size ≤ t.size := by
  have L := Fr.lit 8 h.gr.1 (n := 1) (vs := cells cE [e]) (by simp [cE])
  obtain ⟨x', t, e1, f, hz, k⟩ := (h.gr' L.gr).append (by_ := 72) (by omega) L.rd.src (by simp [cE]) (by omega)
  refine ⟨x', t, _, rfl, e1, ?_, Nat.le_trans L.gr.2.1 hz⟩
  unfold FE
  rw [cells_append, List.length_append]
  exact f

theorem more_run (d : Nat) {q0 : Nat} (hq0 : q0 < 4294967291) (h : RB s x bs) (hl : bs.length ≤ 8000) : R (d + 1) 174 [I .u32 (q0 : Nat), Z x] s = some (I .u32 (sumB q0 bs), s) := by
  rw [f174_run]
  unfold f174
  have hll := h.lenB
  obtain ⟨j, τ, lp, hj, hτ⟩ := loops_inv (f := f174_l1 (R d) 8192) (fun q v u => ∃ k n : Nat, q + k = bs.length ∧ v = [I .u64 n, Z x, I .i64 bs.length, I .i64 k] ∧ u = s ∧ n < 4294967291 ∧ sumB n (bs.drop k) = sumB q0 bs)
    (fun j u => j = .exit 0 [I .u64 (sumB q0 bs)] ∧ u = s) (by
    rintro q v u ⟨k, n, hk, rfl, rfl, hn, hg⟩
    by_cases hkl : k < bs.length
    · left
      have hc : bs[k]? = some bs[k] := List.getElem?_eq_getElem hkl
      have hd : bs.drop k = bs[k] :: bs.drop (k + 1) := List.drop_eq_getElem_cons hkl
      rw [hd] at hg
      obtain ⟨p, ix, ld⟩ := h.atB (n := (k : Int)) rfl hc
      have hcb : bs[k].toNat < 256 := bs[k].toNat_lt
      obtain ⟨A1, A2, A3, A4, hA4, m1, m2, m3, m4⟩ : ∃ A1 A2 A3 A4 : Int, A4 = (((n * 257 + bs[k].toNat + 1) % 4294967291 : Nat) : Int) ∧ aBin .mul (I .u64 n) (I .u64 257) = some (I .u64 A1) ∧ aBin .add (I .u64 A1) (I .u64 bs[k].toNat) = some (I .u64 A2) ∧
          aBin .add (I .u64 A2) (I .u64 1) = some (I .u64 A3) ∧ aBin .rem (I .u64 A3) (I .u64 4294967291) = some (I .u64 A4) := ⟨_, _, _, _, rfl, More.step n bs[k].toNat hn hcb u⟩
      have hw : IntKind.u64.wrap (bs[k].toNat : Int) = (bs[k].toNat : Int) := wrap64 _ (by omega)
      have w1 : IntKind.i64.wrap ((k : Int) + 1) = ((k + 1 : Nat) : Int) := by rw [wrap_in _ (by omega) (by omega)]; omega
      have c0 : ((k : Int) < (bs.length : Int)) = True := eq_true (by omega)
      refine ⟨[I .u64 (((n * 257 + bs[k].toNat + 1) % 4294967291 : Nat)), Z x, I .i64 bs.length, I .i64 ((k + 1 : Nat) : Int)], u, q - 1, ?_, by omega, k + 1, _, by omega, rfl, rfl, Nat.mod_lt _ (by decide), hg⟩
      unfold f174_l1
      generalize ((k + 1 : Nat) : Int) = K1 at w1 ⊢
      rw [← hA4]
      generalize (bs[k].toNat : Int) = C at m2 ld hw
      generalize (k : Int) = K at w1 ix c0 ⊢
      simp only [jn_normal, bd_some, List.getD_cons_zero, List.getD_cons_succ, lss_int, br_true, decide_true, c0, ix, ld, m1, m2, m3, m4, aConv_int, hw, add_int, w1]
    · right
      have hk' : k = bs.length := by omega
      have c0 : ¬ ((k : Int) < (bs.length : Int)) := by omega
      have hg' : n = sumB q0 bs := by
        rw [List.drop_eq_nil_of_le (by omega)] at hg
        exact hg
      refine ⟨.exit 0 [I .u64 (sumB q0 bs)], u, ?_, (fun v hv => by cases hv), rfl, rfl⟩
      unfold f174_l1
      rw [hg']
      simp [c0]) 8192 bs.length [I .u64 (q0 : Nat), Z x, I .i64 bs.length, I .i64 0] s ⟨0, q0, rfl, rfl, rfl, hq0, rfl⟩ (by omega)
  subst hj; subst hτ
  have hlt := sumB_lt bs q0 hq0
  have h32 : IntKind.u32.wrap (sumB q0 bs : Int) = (sumB q0 bs : Int) := by rw [wrap32, Nat.mod_eq_of_lt (by omega)]
  have e1 : aConv .u64 (I .u32 (q0 : Nat)) = some (I .u64 (q0 : Nat)) := by rw [aConv_int, wrap64 _ (by omega)]
  have e2 : aBin .rem (I .u64 (q0 : Nat)) (I .u64 4294967291) = some (I .u64 (q0 : Nat)) := by
    rw [rem_int _ _ _ (by decide), Int.tmod_eq_emod_of_nonneg (by omega), Int.emod_eq_of_lt (by omega) (by omega)]
  simp [e1, e2, hll, lp, h32]

theorem low_run (d : Nat) (wf : s.wf) (q : Nat) : ∃ y t, R (d + 1) 173 [I .u32 q] s = some (Z y, t) ∧ FB s t y (four q) := by
  rw [f173_run]
  unfold f173
  have nw := lit4 s (q % 256) (q / 2 ^ 8 % 256) (q / 2 ^ 16 % 256) (q / 2 ^ 24 % 256)
  have hU : U (four q) = [.int .u8 (q % 256 : Nat), .int .u8 (q / 2 ^ 8 % 256 : Nat), .int .u8 (q / 2 ^ 16 % 256 : Nat), .int .u8 (q / 2 ^ 24 % 256 : Nat)] := by
    simp only [U, four, List.map_cons, List.map_nil, byte_nat]
  rw [← hU] at nw
  have c0 := wrap8 q
  have c1 := wrap8 (q / 2 ^ 8)
  have c2 := wrap8 (q / 2 ^ 16)
  have c3 := wrap8 (q / 2 ^ 24)
  have r1 : aBin .shr (I .u32 q) (I .u64 8) = some (I .u32 ((q / 2 ^ 8 : Nat))) := shr_nat .u32 q 8 (by decide)
  have r2 : aBin .shr (I .u32 q) (I .u64 16) = some (I .u32 ((q / 2 ^ 16 : Nat))) := shr_nat .u32 q 16 (by decide)
  have r3 : aBin .shr (I .u32 q) (I .u64 24) = some (I .u32 ((q / 2 ^ 24 : Nat))) := shr_nat .u32 q 24 (by decide)
  refine ⟨_, _, ?_, Fr.lit 1 wf (n := 4) (vs := U (four q)) rfl⟩
  generalize s.push (.cells true (U (four q))) = t at nw ⊢
  generalize ((q / 2 ^ 8 % 256 : Nat) : Int) = Q1 at nw c1
  generalize ((q / 2 ^ 16 % 256 : Nat) : Int) = Q2 at nw c2
  generalize ((q / 2 ^ 24 % 256 : Nat) : Int) = Q3 at nw c3
  generalize ((q % 256 : Nat) : Int) = Q0 at nw c0
  generalize ((q / 2 ^ 8 : Nat) : Int) = P1 at r1 c1
  generalize ((q / 2 ^ 16 : Nat) : Int) = P2 at r2 c2
  generalize ((q / 2 ^ 24 : Nat) : Int) = P3 at r3 c3
  generalize (q : Int) = Q at *
  simp [c0, c1, c2, c3, r1, r2, r3, nw]

def lenSum : List Bs → Nat
  | [] => 0
  | b :: r => b.length + lenSum r
theorem lenSum_flat : ∀ l : List Bs, l.flatten.length = lenSum l
  | [] => rfl
  | b :: r => by simp [lenSum, lenSum_flat r]
theorem lenSum_snoc : ∀ (l : List Bs) (b : Bs), lenSum (l ++ [b]) = lenSum l + b.length
  | [], b => by simp [lenSum]
  | a :: r, b => by simp [lenSum, lenSum_snoc r b]; omega
theorem lenSum_take (l : List Bs) (k : Nat) : lenSum (l.take k) ≤ lenSum l := by
  induction l generalizing k with
  | nil => simp [lenSum]
  | cons a r ih =>
    cases k with
    | zero => simp [lenSum]
    | succ k => have := ih k; simp [lenSum]; omega

theorem concat_run (d : Nat) (wf : s.wf) {ys : List S} {bss : List Bs} (hx : Rd 1 s x ys.length ys) (hox : ∀ c, own x = some c → c < s.size) (hlen : ys.length = bss.length) (hys : ∀ (j : Nat) y b, ys[j]? = some y → bss[j]? = some b → RB s y b ∧ ∀ c, own y = some c → c < s.size)
    (h0 : 0 < lenSum bss) (hT : lenSum bss ≤ 100000) (hl : ys.length ≤ 100) : ∃ z t, R (d + 2) 172 [Z x] s = some (Z z, t) ∧ FB s t z bss.flatten := by
  rw [f172_run]
  unfold f172
  have hll := hx.lens
  obtain ⟨j, τ, lp, hj, hτ⟩ := loops_inv (f := f172_l1 (R (d + 1)) 8192) (fun q v u => ∃ k : Nat, q + k = ys.length ∧ v = [Z x, I .i64 (lenSum (bss.take k) : Nat), Z x, I .i64 ys.length, I .i64 k] ∧ u = s)
    (fun j u => j = .exit 0 [Z x, I .i64 (lenSum bss : Nat)] ∧ u = s) (by
    rintro q v u ⟨k, hk, rfl, rfl⟩
    by_cases hkl : k < ys.length
    · left
      have hc : ys[k]? = some ys[k] := List.getElem?_eq_getElem hkl
      have hb : bss[k]? = some (bss[k]'(by omega)) := List.getElem?_eq_getElem (by omega)
      obtain ⟨p, ix, ld⟩ := Rd.at1 hx (i := (k : Int)) rfl hc
      obtain ⟨ry, _⟩ := hys k _ _ hc hb
      have hyl := ry.lenB
      have htk : bss.take (k + 1) = bss.take k ++ [bss[k]'(by omega)] := by rw [List.take_add_one, hb]; rfl
      have h1 := lenSum_take bss (k + 1)
      have hs : lenSum (bss.take (k + 1)) = lenSum (bss.take k) + (bss[k]'(by omega)).length := by rw [htk, lenSum_snoc]
      have c0 : (k : Int) < (ys.length : Int) := by omega
      have w1 : IntKind.i64.wrap ((k : Int) + 1) = ((k + 1 : Nat) : Int) := by rw [wrap_in _ (by omega) (by omega)]; omega
      have wa : IntKind.i64.wrap ((lenSum (bss.take k) : Nat) + ((bss[k]'(by omega)).length : Int)) = ((lenSum (bss.take (k + 1)) : Nat) : Int) := by rw [wrap_in _ (by omega) (by omega)]; omega
      have c1 : ¬ ((lenSum (bss.take (k + 1)) : Nat) : Int) < 0 := by omega
      refine ⟨[Z x, I .i64 (lenSum (bss.take (k + 1)) : Nat), Z x, I .i64 ys.length, I .i64 ((k + 1 : Nat) : Int)], u, q - 1, ?_, by omega, k + 1, by omega, rfl, rfl⟩
      unfold f172_l1
      generalize ((k + 1 : Nat) : Int) = K1 at w1 ⊢
      generalize ((lenSum (bss.take (k + 1)) : Nat) : Int) = S1 at wa c1 ⊢
      generalize ((lenSum (bss.take k) : Nat) : Int) = S0 at wa ⊢
      generalize ((bss[k]'(by omega)).length : Int) = B1 at *
      generalize (k : Int) = K at *
      generalize (ys.length : Int) = L at *
      simp [c0, ix, ld, hyl, wa, c1, w1]
    · right
      have hk' : k = ys.length := by omega
      subst hk'
      rw [hlen, List.take_length]
      refine ⟨.exit 0 [Z x, I .i64 (lenSum bss : Nat)], u, ?_, (fun v hv => by cases hv), rfl, rfl⟩
      unfold f172_l1
      simp) 8192 ys.length [Z x, I .i64 0, Z x, I .i64 ys.length, I .i64 0] s ⟨0, rfl, by simp [lenSum], rfl⟩ (by omega)
  subst hτ; subst hj
  obtain ⟨TN, hTd⟩ : ∃ TN, TN = lenSum bss := ⟨_, rfl⟩
  rw [← hTd] at lp h0 hT
  obtain ⟨s1, hs1⟩ : ∃ s1, s1 = τ.push (.cells true (zeros TN [.int .u8 0])) := ⟨_, rfl⟩
  have g1 : Gr τ s1 := by rw [hs1]; exact Gr.push wf _
  have hg : R (d + 1) 216 [Z .nils, I .i64 (TN : Nat)] τ = some (Z (.sl τ.size 0 0 (.grown 1)), s1) := by
    rw [f216_run]
    unfold f216
    have c0 : ¬ ((TN : Nat) : Int) < 0 := by omega
    have c1 : (0 : Int) < ((TN : Nat) : Int) := by omega
    have w0 : IntKind.i64.wrap 0 = 0 := rfl
    have wT : IntKind.i64.wrap ((TN : Nat) : Int) = ((TN : Nat) : Int) := wrap_in _ (by omega) (by omega)
    have cap : aCap (Z .nils) = some (I .i64 0) := rfl
    have pc0 : aPieceSl 1 (Z .nils) none (some (I .i64 0)) none = some (Z .nils) := rfl
    have gr : aGrow 1 1 [.int .u8 0] (Z .nils) (I .i64 ((TN : Nat) : Int)) τ = some (Z (.sl τ.size 0 TN (.grown 1)), s1) := by
      simp only [aGrow, Int.toNat_natCast, hs1]
      rw [if_pos ⟨c1, by omega, by decide⟩]
    have pc1 : aPieceSl 1 (Z (.sl τ.size 0 TN (.grown 1))) none (some (I .i64 0)) none = some (Z (.sl τ.size 0 0 (.grown 1))) := by
      unfold aPieceSl
      dsimp only
      rw [if_pos rfl, show (I .i64 0 : T) = I .i64 ((0 : Nat) : Int) from rfl, aBounds_hi (Nat.zero_le _)]
      dsimp only
      rw [if_pos h0]
    generalize ((TN : Nat) : Int) = TT at *
    simp [c0, cap, w0, wT, c1, pc0, gr, pc1]
  have f1 : FB τ s1 (.sl τ.size 0 0 (.grown 1)) [] := by
    refine ⟨g1, ⟨by simp, .inr (.inr ⟨τ.size, zeros TN [.int .u8 0], _, rfl, .inl rfl, by rw [hs1]; exact St.get_push_same _ _, by simp, by simp [U]⟩)⟩, fun c hc => by cases hc; exact ⟨Nat.le_refl _, by rw [hs1]; simp⟩⟩
  obtain ⟨j, σ, lp2, z, rfl, fz⟩ := loops_inv (f := f172_l2 (R (d + 1)) 8192) (fun q v u => ∃ (k : Nat) (z : S), q + k = ys.length ∧ v = [Z z, Z x, I .i64 ys.length, I .i64 k] ∧ FB τ u z (bss.take k).flatten)
    (fun j u => ∃ z, j = .exit 2 [Z z] ∧ FB τ u z bss.flatten) (by
    rintro q v u ⟨k, z, hk, rfl, hf⟩
    by_cases hkl : k < ys.length
    · left
      have hc : ys[k]? = some ys[k] := List.getElem?_eq_getElem hkl
      have hb : bss[k]? = some (bss[k]'(by omega)) := List.getElem?_eq_getElem (by omega)
      obtain ⟨p, ix, ld⟩ := Rd.at1 (hx.gr hox hf.gr) (i := (k : Int)) rfl hc
      obtain ⟨ry, oy⟩ := hys k _ _ hc hb
      have htk : bss.take (k + 1) = bss.take k ++ [bss[k]'(by omega)] := by rw [List.take_add_one, hb]; rfl
      have h1 := lenSum_take bss (k + 1)
      have hs : lenSum (bss.take (k + 1)) = lenSum (bss.take k) + (bss[k]'(by omega)).length := by rw [htk, lenSum_snoc]
      have c0 : (k : Int) < (ys.length : Int) := by omega
      have w1 : IntKind.i64.wrap ((k : Int) + 1) = ((k + 1 : Nat) : Int) := by rw [wrap_in _ (by omega) (by omega)]; omega
      obtain ⟨z', u', ap, hf', _⟩ := FB.app hf (Rd.gr ry oy hf.gr) (by rw [lenSum_flat]; omega)
      refine ⟨[Z z', Z x, I .i64 ys.length, I .i64 ((k + 1 : Nat) : Int)], u', q - 1, ?_, by omega, k + 1, z', by omega, rfl, by rw [htk, List.flatten_append]; simpa using hf'⟩
      unfold f172_l2
      generalize ((k + 1 : Nat) : Int) = K1 at w1 ⊢
      generalize (k : Int) = K at *
      generalize (ys.length : Int) = L at *
      simp [c0, ix, ld, ap, w1]
    · right
      have hk' : k = ys.length := by omega
      subst hk'
      rw [hlen, List.take_length] at hf
      refine ⟨.exit 2 [Z z], u, ?_, (fun v hv => by cases hv), z, rfl, hf⟩
      unfold f172_l2
      simp) 8192 ys.length [Z (.sl τ.size 0 0 (.grown 1)), Z x, I .i64 ys.length, I .i64 0] s1 ⟨0, _, by omega, rfl, by simpa using f1⟩ (by omega)
  refine ⟨z, σ, ?_, fz⟩
  simp [hll, lp, hg, lp2]

theorem wrap_run (d : Nat) (wf : s.wf) (h : RB s x bs) (hox : ∀ c, own x = some c → c < s.size) (hl : bs.length ≤ 8000) : ∃ z t, R (d + 3) 131 [Z x] s = some (Z z, t) ∧ FB s t z (wrapB bs) := by
  rw [f131_run]
  unfold f131
  have hll := h.lenB
  have w0 : IntKind.u64.wrap (bs.length : Int) = (bs.length : Int) := wrap64 _ (by omega)
  obtain ⟨y1, s1, e1, f1⟩ := vput_run (d + 1) wf bs.length (by omega)
  have hvl := vput_len bs.length
  have e2 := sum_run d f1.rd (by omega)
  have hlt := sumB_lt (vput bs.length) 1 (by decide)
  have rx1 : RB s1 x bs := h.gr hox f1.gr
  have e3 := more_run (d + 1) hlt rx1 hl
  obtain ⟨y4, s4, e4, f4⟩ := low_run (d + 1) f1.gr.wf (sumB (sumB 1 (vput bs.length)) bs)
  have g4 := f1.gr.trans f4.gr
  obtain ⟨s5, hs5⟩ : ∃ s5, s5 = s4.push (.cells true [y1, y4, x]) := ⟨_, rfl⟩
  have nw : aNew s4 (nSlice 3 (aFill [.nils, .nils, .nils] [(0, 1, Z y1), (1, 1, Z y4), (2, 1, Z x)])) = some (Z (.sl s4.size 0 3 (.known 3)), s5) := by rw [hs5]; rfl
  have L := Fr.lit 1 g4.wf (n := 3) (vs := [y1, y4, x]) rfl
  rw [← hs5] at L
  have g5 := g4.trans L.gr
  have r1 : RB s5 y1 (vput bs.length) := (f1.rd.gr (fun c hc => (f1.new c hc).2) f4.gr).gr (fun c hc => Nat.lt_of_lt_of_le (f1.new c hc).2 f4.gr.2.1) L.gr
  have r4 : RB s5 y4 (four (sumB (sumB 1 (vput bs.length)) bs)) := f4.rd.gr (fun c hc => (f4.new c hc).2) L.gr
  have rx : RB s5 x bs := h.gr hox g5
  have hpos : 0 < (vput bs.length).length := by unfold vput putN; split <;> simp
  obtain ⟨z, t, e6, f6⟩ := concat_run d L.gr.wf (ys := [y1, y4, x]) (bss := [vput bs.length, four (sumB (sumB 1 (vput bs.length)) bs), bs]) L.rd (fun c hc => (L.new c hc).2) rfl (fun j y b hy hb => by
    have z5 : s4.size ≤ s5.size := L.gr.2.1
    match j with
    | 0 => simp at hy hb; subst hy; subst hb; exact ⟨r1, fun c hc => by have := (f1.new c hc).2; have := f4.gr.2.1; omega⟩
    | 1 => simp at hy hb; subst hy; subst hb; exact ⟨r4, fun c hc => by have := (f4.new c hc).2; omega⟩
    | 2 => simp at hy hb; subst hy; subst hb; exact ⟨rx, fun c hc => by have := hox c hc; have := g5.2.1; omega⟩
    | j + 3 => simp at hy) (by simp [lenSum]; omega) (by simp [lenSum, four]; omega) (by simp)
  have hw : [vput bs.length, four (sumB (sumB 1 (vput bs.length)) bs), bs].flatten = wrapB bs := by simp [wrapB, sumB_append]
  rw [hw] at f6
  refine ⟨z, t, ?_, f6.from g5⟩
  simp only [Nat.add_assoc, Nat.reduceAdd] at e1 e3 e4
  generalize (bs.length : Int) = BL at *
  simp [hll, w0, e1, e2, e3, e4, nw, e6]
end
end Go.Proofs.YtbohejffelipoaaGreatDoor


/-
  Frames: what log.Open, Frame, All, Read, Meet and Front compute, in any store. No conditions but those named in each line.
-/
namespace Go.Proofs.YtbohejffelipoaaGreatDoor
open Go Go.Abs Go.Abs.F
set_option linter.unusedVariables false
section
variable {s t : St} {x y : S} {bs cs : Bs} {i : Nat} {l m : List Ent}

theorem wrapB_len (b : Bs) : (wrapB b).length ≤ b.length + 15 := by
  have := vput_len b.length
  simp [wrapB, four]
  omega

theorem getN_few0 {bs : Bs} {at_ : Nat} : ∀ (f k n : Nat) {r : Nat × Nat}, getN bs at_ f k n = some r → r.2 ≤ at_ + k + f := by
  intro f
  induction f with
  | zero => intro k n r h; cases h
  | succ f ih =>
    intro k n r h
    unfold getN at h
    split at h
    · cases h
    · split at h
      · cases h
      · split at h
        · have := ih _ _ h
          omega
        · split at h
          · cases h
          · cases h
            show at_ + k + 1 ≤ _
            omega
theorem getN_few {bs : Bs} {at_ n to : Nat} (h : vget bs at_ = some (n, to)) : to ≤ at_ + 10 := by
  unfold vget at h
  split at h
  · have := getN_few0 _ _ _ h
    simpa using this
  · cases h

abbrev resO (y : S) (at_ : Nat) (o : Option (Bs × Nat)) : T := match o with
  | some (p, e) => .tup [.s y, .s (.int .i64 (e : Nat)), .s (.bool true)]
  | none => .tup [.s .nils, .s (.int .i64 (at_ : Nat)), .s (.bool false)]

theorem open_run (d : Nat) (wf : s.wf) (h : RB s x bs) (hox : ∀ c, own x = some c → c < s.size) (hl : bs.length ≤ 100000) {at_ : Nat} (ha : at_ ≤ bs.length) (hsm : ∀ n to, vget bs at_ = some (n, to) → bs.length - to - 4 < n ∨ n ≤ 7900) :
    ∃ y t, R (d + 4) 93 [Z x, I .i64 (at_ : Nat)] s = some (resO y at_ (openB bs at_), t) ∧ Gr s t ∧ ∀ p e, openB bs at_ = some (p, e) → RB t y p ∧ (∀ c, own y = some c → c < t.size) ∧ e ≤ bs.length ∧ p.length ≤ 7900 := by
  rw [f93_run]
  unfold f93
  have hll := h.lenB
  have e1 := vget_run (d + 2) h hl (at_ := at_) (by omega)
  simp only [Nat.add_assoc, Nat.reduceAdd] at e1
  cases hv : vget bs at_ with
  | none =>
    rw [hv] at e1
    simp only [vres, if_pos ha] at e1
    have ho : openB bs at_ = none := by unfold openB; rw [hv]
    rw [ho]
    refine ⟨.nils, s, ?_, Gr.refl wf, fun p e hh => by cases hh⟩
    simp [e1, aExtract, gtt, retT, allV]
  | some p =>
    obtain ⟨n, to⟩ := p
    rw [hv] at e1
    simp only [vres] at e1
    obtain ⟨hv1, hv2⟩ := vget_lt hv
    have hsn := hsm n to hv
    have w1 : IntKind.i64.wrap ((bs.length : Int) - ((to : Nat) : Int)) = (bs.length : Int) - ((to : Nat) : Int) := wrap_in _ (by omega) (by omega)
    by_cases c1 : bs.length < to + 4
    · have ho : openB bs at_ = none := by unfold openB; rw [hv]; simp only; rw [if_pos (.inl c1)]
      rw [ho]
      have k1 : (bs.length : Int) - ((to : Nat) : Int) < 4 := by omega
      refine ⟨.nils, s, ?_, Gr.refl wf, fun p e hh => by cases hh⟩
      simp [e1, aExtract, hll, w1, k1, gtt, retT, allV]
    · have k1 : ¬ (bs.length : Int) - ((to : Nat) : Int) < 4 := by omega
      have w2 : IntKind.i64.wrap ((bs.length : Int) - ((to : Nat) : Int) - 4) = (bs.length : Int) - ((to : Nat) : Int) - 4 := wrap_in _ (by omega) (by omega)
      have w3 : IntKind.u64.wrap ((bs.length : Int) - ((to : Nat) : Int) - 4) = (bs.length : Int) - ((to : Nat) : Int) - 4 := wrap_u64_in _ (by omega) (by omega)
      by_cases c2 : bs.length - to - 4 < n
      · have ho : openB bs at_ = none := by unfold openB; rw [hv]; simp only; rw [if_pos (.inr c2)]
        rw [ho]
        have k2 : (bs.length : Int) - ((to : Nat) : Int) - 4 < ((n : Nat) : Int) := by omega
        refine ⟨.nils, s, ?_, Gr.refl wf, fun p e hh => by cases hh⟩
        simp [e1, aExtract, hll, w1, k1, w2, w3, k2, retT, allV]
      · have k2 : ¬ (bs.length : Int) - ((to : Nat) : Int) - 4 < ((n : Nat) : Int) := by omega
        have w4 : IntKind.i64.wrap (((to : Nat) : Int) + 4) = ((to + 4 : Nat) : Int) := by rw [wrap_in _ (by omega) (by omega)]; omega
        have w5 : IntKind.i64.wrap ((n : Nat) : Int) = ((n : Nat) : Int) := wrap_in _ (by omega) (by omega)
        have w6 : IntKind.i64.wrap (((to + 4 : Nat) : Int) + ((n : Nat) : Int)) = ((to + 4 + n : Nat) : Int) := by rw [wrap_in _ (by omega) (by omega)]; omega
        have piece : ∀ lo hi : Nat, lo ≤ hi → hi ≤ bs.length → ∃ y, aPieceSl 1 (Z x) (some (I .i64 (lo : Nat))) (some (I .i64 (hi : Nat))) none = some (Z y) ∧ RB s y ((bs.drop lo).take (hi - lo)) ∧ (own y = none ∨ own y = own x) := fun lo hi h1 h2 => by
          obtain ⟨y, a, b, c⟩ := Rd.piece h (lo := lo) (hi := hi) h1 h2
          refine ⟨y, a, ?_, c⟩
          rw [Nat.mul_one, Nat.mul_one, U_drop, U_take] at b
          have : ((bs.drop lo).take (hi - lo)).length = hi - lo := by rw [List.length_take, List.length_drop]; omega
          unfold RB
          rw [this]
          exact b
        obtain ⟨y1, p1, r1, o1⟩ := piece (to + 4) (to + 4 + n) (by omega) (by omega)
        obtain ⟨y2, p2, r2, o2⟩ := piece at_ (to + 4 + n) (by omega) (by omega)
        rw [show to + 4 + n - (to + 4) = n by omega] at r1
        have hn7 : n ≤ 7900 := hsn.resolve_left c2
        have hpl : ((bs.drop (to + 4)).take n).length ≤ 7900 := by rw [List.length_take]; omega
        have ho1 : ∀ c, own y1 = some c → c < s.size := fun c hc => by
          rcases o1 with e | e
          · rw [e] at hc; cases hc
          · rw [e] at hc; exact hox c hc
        have ho2 : ∀ c, own y2 = some c → c < s.size := fun c hc => by
          rcases o2 with e | e
          · rw [e] at hc; cases hc
          · rw [e] at hc; exact hox c hc
        obtain ⟨z, t, e3, f3⟩ := wrap_run d wf r1 ho1 (by omega)
        have r2' : RB t y2 ((bs.drop at_).take (to + 4 + n - at_)) := r2.gr ho2 f3.gr
        have eq : R (d + 3) 130 [Z y2, Z z] t = some (B (decide ((bs.drop at_).take (to + 4 + n - at_) = wrapB ((bs.drop (to + 4)).take n))), t) := by
          by_cases hlong : ((bs.drop at_).take (to + 4 + n - at_)).length ≤ 8000
          · exact equal_run (d + 2) r2' f3.rd hlong
          · exfalso
            rw [List.length_take, List.length_drop] at hlong
            have := getN_few hv
            omega
        have hop : openB bs at_ = if (bs.drop at_).take (to + 4 + n - at_) = wrapB ((bs.drop (to + 4)).take n) then some ((bs.drop (to + 4)).take n, to + 4 + n) else none := by
          unfold openB
          rw [hv]
          simp only
          rw [if_neg (fun hh => hh.elim c1 c2)]
        rw [hop]
        by_cases he : (bs.drop at_).take (to + 4 + n - at_) = wrapB ((bs.drop (to + 4)).take n)
        · rw [if_pos he]
          rw [decide_eq_true he] at eq
          refine ⟨y1, t, ?_, f3.gr, fun p e hh => by
            cases hh
            exact ⟨r1.gr ho1 f3.gr, fun c hc => Nat.lt_of_lt_of_le (ho1 c hc) f3.gr.2.1, by omega, hpl⟩⟩
          show _ = some (T.tup [.s y1, .s (.int .i64 ((to + 4 + n : Nat) : Int)), .s (.bool true)], t)
          generalize ((to + 4 + n : Nat) : Int) = E1 at *
          generalize ((to + 4 : Nat) : Int) = E0 at *
          generalize R (d + 3) = r at *
          simp [e1, aExtract, hll, w1, k1, w2, w3, k2, w4, w5, w6, p1, p2, e3, eq, retT, allV]
        · rw [if_neg he]
          rw [decide_eq_false he] at eq
          refine ⟨y1, t, ?_, f3.gr, fun p e hh => by cases hh⟩
          generalize ((to + 4 + n : Nat) : Int) = E1 at *
          generalize ((to + 4 : Nat) : Int) = E0 at *
          generalize R (d + 3) = r at *
          simp [e1, aExtract, hll, w1, k1, w2, w3, k2, w4, w5, w6, p1, p2, e3, eq, retT, allV]

abbrev resF (y : S) (o : Option Bs) : T := match o with
  | some b => .tup [.s y, .s (.int .i64 0)]
  | none => .tup [.s .nils, .s (.int .i64 1)]

theorem frame_run (d : Nat) (wf : s.wf) (e : Ent) (hw : EWf e) : ∃ y t, R (d + 10) 95 [AE e] s = some (resF y (frameE e), t) ∧ Gr s t ∧ ∀ b, frameE e = some b → FB s t y b := by
  rw [f95_run]
  unfold f95
  obtain ⟨s1, hs1⟩ : ∃ s1, s1 = s.push (.cells true (cE e)) := ⟨_, rfl⟩
  have nw1 : aNew s (nBox (AE e)) = some (Z (.ptr s.size 0), s1) := by rw [hs1]; rfl
  have g1 : Gr s s1 := by rw [hs1]; exact Gr.push wf _
  have h1 : s1.get s.size = some (.cells true (cE e)) := by rw [hs1]; exact St.get_push_same _ _
  have l8 := load8 (g := s1.get) h1
  cases hm : mayE e with
  | false =>
    obtain ⟨s2, e2, g2⟩ := put_bad d g1.wf hm
    have hf : frameE e = none := by simp [frameE, hm]
    rw [hf]
    refine ⟨.nils, s2, ?_, g1.trans g2, fun b hb => by cases hb⟩
    simp [nw1, l8, e2, aExtract, retT, allV]
  | true =>
    obtain ⟨y, s2, e2, f2⟩ := put_run d g1.wf hm hw
    obtain ⟨z, s3, e3, f3⟩ := wrap_run (d + 6) f2.gr.wf f2.rd (fun c hc => (f2.new c hc).2) (by have := putB_len (mayE_x hm); omega)
    have hf : frameE e = some (wrapB (putB e)) := by simp [frameE, hm]
    rw [hf]
    refine ⟨z, s3, ?_, (g1.trans f2.gr).trans f3.gr, fun b hb => by cases hb; exact f3.from (g1.trans f2.gr)⟩
    simp only [Nat.add_assoc, Nat.reduceAdd] at e3
    simp [nw1, l8, e2, aExtract, e3, retT, allV]

theorem frameE_len {e : Ent} {b : Bs} (h : frameE e = some b) : b.length ≤ 415 := by
  unfold frameE at h
  split at h
  · rename_i hm
    cases h
    have := putB_len (mayE_x hm)
    have := wrapB_len (putB e)
    omega
  · cases h

theorem framesB_snoc : ∀ (l : List Ent) (e : Ent), framesB (l ++ [e]) = framesB l ++ wrapB (putB e)
  | [], e => by simp [framesB]
  | a :: r, e => by simp [framesB, framesB_snoc r e]

theorem all_take {l : List Ent} (k : Nat) (h : l.all mayE = true) : (l.take k).all mayE = true := by
  rw [List.all_eq_true] at h ⊢
  exact fun x hx => h x (List.mem_of_mem_take hx)

theorem framesB_len : ∀ l : List Ent, l.all mayE = true → (framesB l).length ≤ 415 * l.length
  | [], _ => by simp [framesB]
  | e :: r, h => by
    simp only [List.all_cons, Bool.and_eq_true] at h
    have h1 := framesB_len r h.2
    have h2 : (wrapB (putB e)).length ≤ 415 := frameE_len (e := e) (by simp [frameE, h.1])
    simp [framesB]
    omega
end
end Go.Proofs.YtbohejffelipoaaGreatDoor


/-
  Frames: what log.Read computes, in any store. No conditions but those named in each line.
-/
namespace Go.Proofs.YtbohejffelipoaaGreatDoor
open Go Go.Abs Go.Abs.F
set_option linter.unusedVariables false
section
variable {s t : St} {x y : S} {bs cs : Bs} {i : Nat} {l m : List Ent}

theorem openB_le {a e : Nat} {p : Bs} (h : openB bs a = some (p, e)) : e ≤ bs.length := by
  unfold openB at h
  split at h
  · cases h
  · split at h
    · cases h
    · split at h
      · cases h; omega
      · cases h

abbrev resR (y : S) (p : List Ent × Nat) : T := .tup [.s y, .s (.int .i64 (p.2 : Nat))]

theorem read_run (d : Nat) (wf : s.wf) (h : RB s x bs) (hox : ∀ c, own x = some c → c < s.size) (hl : bs.length ≤ 100000) (V : Nat → Prop) (v0 : V 0) (v1 : ∀ a p e, V a → openB bs a = some (p, e) → V e)
    (v2 : ∀ a n to, V a → vget bs a = some (n, to) → bs.length - to - 4 < n ∨ n ≤ 7900) :
    ∃ y t, R (d + 11) 43 [Z x] s = some (resR y (readP bs), t) ∧ FE s t y (readP bs).1 := by
  rw [f43_run]
  unfold f43
  obtain ⟨j, τ, lp, z, hj, f⟩ := loops_inv (f := f43_l1 (R (d + 10)) 8192) (fun q v u => ∃ (at_ : Nat) (z : S) (acc : List Ent), q + acc.length = 2000 ∧ v = [Z x, Z z, I .i64 (at_ : Nat)] ∧ FE s u z acc ∧ V at_ ∧ at_ ≤ bs.length ∧ readL bs q at_ acc = readP bs)
    (fun j u => ∃ z, j = .exit 0 [Z z, I .i64 ((readP bs).2 : Nat)] ∧ FE s u z (readP bs).1) (by
    rintro q v u ⟨at_, z, acc, hq, rfl, f, hv, ha, hr⟩
    have hll := f.rd.lens
    by_cases hc : acc.length < 2000
    · obtain ⟨q', rfl⟩ : ∃ q', q = q' + 1 := ⟨q - 1, by omega⟩
      obtain ⟨y, u1, e1, g1, o1⟩ := open_run (d + 6) f.gr.wf (h.gr hox f.gr) (fun c hc => Nat.lt_of_lt_of_le (hox c hc) f.gr.2.1) hl ha (fun n to => v2 at_ n to hv)
      simp only [Nat.add_assoc, Nat.reduceAdd] at e1
      have c0 : ((acc.length : Nat) : Int) < 2000 := by omega
      unfold readL at hr
      cases ho : openB bs at_ with
      | none =>
        rw [ho] at e1 hr
        right
        refine ⟨.exit 0 [Z z, I .i64 (at_ : Nat)], u1, ?_, (fun v hv => by cases hv), z, ?_, ?_⟩
        · unfold f43_l1
          generalize ((acc.length : Nat) : Int) = L at *
          generalize ((at_ : Nat) : Int) = A at *
          generalize R (d + 10) = r at *
          simp [hll, c0, e1, aExtract, gtt]
        · rw [← hr]
        · rw [← hr]; exact f.gr' g1
      | some pe =>
        obtain ⟨p, e⟩ := pe
        rw [ho] at e1 hr
        simp only at hr
        obtain ⟨ry, oy, he, hp⟩ := o1 p e ho
        obtain ⟨u2, e2, g2⟩ := get_run d g1.wf ry oy (by omega)
        obtain ⟨u3, hu3⟩ : ∃ u3, u3 = u2.push (.cells true (cE ent0)) := ⟨_, rfl⟩
        have b0 : u3.get u2.size = some (.cells true (cE ent0)) := by rw [hu3]; exact St.get_push_same _ _
        have g3 : Gr u2 u3 := by rw [hu3]; exact Gr.push g2.wf _
        have z3 : u3.size = u2.size + 1 := by rw [hu3]; simp
        have nw : aNew u2 (nCells [.int .i64 0, .int .i64 0, .int .i64 0, .int .i64 0, .int .i64 0, .int .i64 0, .int .u32 0, .str []]) = some (Z (.ptr u2.size 0), u3) := by rw [hu3]; rfl
        have gset : ∀ b : Blk, Gr u2 (u3.set u2.size b) := fun b =>
          ⟨St.wf_set g3.wf (by omega) _, by simpa using g3.2.1, fun c hc => by rw [St.get_set_ne _ _ (by omega)]; exact g3.2.2 c hc⟩
        cases hg : getE p with
        | none =>
          rw [hg] at e2 hr
          have st := store8 (e := ent0) b0 rfl
          right
          refine ⟨.exit 0 [Z z, I .i64 (at_ : Nat)], u3.set u2.size (.cells true (cE ent0)), ?_, (fun v hv => by cases hv), z, ?_, ?_⟩
          rotate_left
          · rw [← hr]
          · rw [← hr]; exact f.gr' ((g1.trans g2).trans (gset _))
          · unfold f43_l1
            generalize ((acc.length : Nat) : Int) = L at *
            generalize ((at_ : Nat) : Int) = A at *
            generalize ((e : Nat) : Int) = E at *
            generalize R (d + 10) = r at *
            simp [hll, c0, e1, aExtract, e2, nw, st, gtt]
        | some en =>
          rw [hg] at e2 hr
          obtain ⟨w, hw⟩ : ∃ w, w = u3.set u2.size (.cells true (cE en)) := ⟨_, rfl⟩
          have st : aStore 8 (Z (.ptr u2.size 0)) (AE en) u3 = some (tt, w) := by rw [hw]; exact store8 b0 rfl
          have ld : aLoadN 8 (Z (.ptr u2.size 0)) w.get = some (AE en) := by rw [hw]; exact load8 (St.get_set_same _ _ _)
          have gw : Gr u2 w := by rw [hw]; exact gset _
          obtain ⟨z2, u5, u4, nw2, ap, f5, _⟩ := FE.lit (e := en) (f.gr' ((g1.trans g2).trans gw)) (by omega)
          left
          refine ⟨[Z x, Z z2, I .i64 (e : Nat)], u5, q', ?_, rfl, e, z2, acc ++ [en], by simp; omega, rfl, f5, v1 _ _ _ hv ho, he, hr⟩
          unfold f43_l1
          generalize ((acc.length : Nat) : Int) = L at *
          generalize ((at_ : Nat) : Int) = A at *
          generalize R (d + 10) = r at *
          simp [hll, c0, e1, aExtract, e2, nw, st, ld, nw2, ap]
    · have hq0 : q = 0 := by omega
      subst hq0
      have c0 : ¬ ((acc.length : Nat) : Int) < 2000 := by omega
      right
      refine ⟨.exit 0 [Z z, I .i64 (at_ : Nat)], u, ?_, (fun v hv => by cases hv), z, ?_, ?_⟩
      · unfold f43_l1
        generalize ((acc.length : Nat) : Int) = L at *
        simp [hll, c0]
      · rw [← hr]; rfl
      · rw [← hr]; exact f) 8192 2000 [Z x, Z .nils, I .i64 0] s ⟨0, .nils, [], rfl, rfl, by exact Fr.nil 8 wf, v0, by omega, rfl⟩ (by omega)
  subst hj
  exact ⟨z, τ, by simp [lp, retT, allV], f⟩

theorem read_run' (d : Nat) (wf : s.wf) (h : RB s x bs) (hox : ∀ c, own x = some c → c < s.size) (hl : bs.length ≤ 7900) : ∃ y t, R (d + 11) 43 [Z x] s = some (resR y (readP bs), t) ∧ FE s t y (readP bs).1 :=
  read_run d wf h hox (by omega) (fun _ => True) trivial (fun _ _ _ _ _ => trivial) (fun a n to _ hv => by
    by_cases c : bs.length - to - 4 < n
    · exact .inl c
    · exact .inr (by omega))
end
end Go.Proofs.YtbohejffelipoaaGreatDoor

