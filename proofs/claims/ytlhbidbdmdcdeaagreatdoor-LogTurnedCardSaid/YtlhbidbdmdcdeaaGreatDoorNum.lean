/-
  A number of digits: what strings.Trim at the digits, strconv.ParseInt at digits, and policy's number compute, in any store. No conditions but those named in each line.
-/
import Derived.Test.YtlhbidbdmdcdeaaGreatDoorSplit
namespace Go.Proofs.YtlhbidbdmdcdeaaGreatDoor
open Go Go.Abs Go.Abs.F
set_option linter.unusedVariables false

def isDig (b : UInt8) : Bool := Nat.ble 48 b.toNat && Nat.ble b.toNat 57
def digits : Bs := [48, 49, 50, 51, 52, 53, 54, 55, 56, 57]
def digitSet : List S := (List.range 256).map fun c => S.bool (Nat.ble 48 c && Nat.ble c 57)
theorem digitSet_len : digitSet.length = 256 := by simp [digitSet]
theorem digitSet_get (b : UInt8) : digitSet[b.toNat]? = some (.bool (isDig b)) := by
  have := b.toNat_lt
  simp [digitSet, isDig, this]

theorem isDig_iff {b : UInt8} : isDig b = true ↔ 48 ≤ b.toNat ∧ b.toNat ≤ 57 := by
  simp [isDig, Nat.ble_eq]

def trimR (l : Bs) : Bs := (l.reverse.dropWhile isDig).reverse
theorem trimR_snoc (l : Bs) (c : UInt8) : trimR (l ++ [c]) = if isDig c then trimR l else l ++ [c] := by
  unfold trimR
  rw [List.reverse_append, List.reverse_singleton, List.singleton_append, List.dropWhile_cons]
  split <;> simp
theorem trimR_nil : trimR [] = [] := rfl

theorem dropWhile_nil (p : UInt8 → Bool) : ∀ l : Bs, l.dropWhile p = [] ↔ ∀ x ∈ l, p x = true
  | [] => by simp
  | a :: r => by
    have ih := dropWhile_nil p r
    rw [List.dropWhile_cons]
    by_cases h : p a = true
    · rw [if_pos h, ih]; simp [h]
    · rw [if_neg h]; simp [h]
theorem dropWhile_hd (p : UInt8 → Bool) : ∀ (l : Bs) (a : UInt8) (r : Bs), l.dropWhile p = a :: r → p a = false
  | [], a, r, h => by simp at h
  | b :: q, a, r, h => by
    rw [List.dropWhile_cons] at h
    by_cases hb : p b = true
    · rw [if_pos hb] at h; exact dropWhile_hd p q a r h
    · rw [if_neg hb] at h; cases h; simpa using hb

theorem trimD_nil (l : Bs) : (trimR l).dropWhile isDig = [] ↔ l.all isDig = true := by
  unfold trimR
  rw [List.all_eq_true]
  constructor
  · intro h
    have h1 := (dropWhile_nil isDig _).1 h
    have h2 : l.reverse.dropWhile isDig = [] := by
      cases hd : l.reverse.dropWhile isDig with
      | nil => rfl
      | cons a r =>
        exfalso
        have e1 := h1 a (by rw [hd]; simp)
        rw [dropWhile_hd isDig _ a r hd] at e1
        cases e1
    intro x hx
    exact (dropWhile_nil isDig _).1 h2 x (by simpa using hx)
  · intro h
    have h2 : l.reverse.dropWhile isDig = [] := (dropWhile_nil isDig _).2 fun x hx => h x (by simpa using hx)
    rw [h2]
    rfl

def valD (l : Bs) : Nat := l.foldl (fun n b => n * 10 + (b.toNat - 48)) 0
theorem valD_snoc (l : Bs) (c : UInt8) : valD (l ++ [c]) = valD l * 10 + (c.toNat - 48) := by simp [valD]
theorem valD_lt : ∀ (n : Nat) (l : Bs), l.length = n → l.all isDig = true → valD l < 10 ^ n
  | 0, l, h, _ => by
    have : l = [] := List.eq_nil_of_length_eq_zero h
    subst this
    decide
  | n + 1, l, h, ha => by
    rcases List.eq_nil_or_concat l with rfl | ⟨r, c, hl⟩
    · simp at h
    · rw [List.concat_eq_append] at hl
      subst hl
      rw [valD_snoc]
      have hr := valD_lt n r (by simpa using h) (by simp at ha; simpa using ha.1)
      have hc : isDig c = true := by simp at ha; exact ha.2
      rw [isDig_iff] at hc
      rw [Nat.pow_succ]
      omega

def numOk (l : Bs) : Bool := Nat.ble 1 l.length && Nat.ble l.length 13 && l.all isDig
def numV (l : Bs) : Nat := match numOk l with
  | true => valD l
  | false => 0

theorem numV_lt (l : Bs) : numV l < 10000000000000 := by
  unfold numV
  cases h : numOk l with
  | false => show 0 < 10000000000000; decide
  | true =>
    simp only [numOk, Bool.and_eq_true, Nat.ble_eq] at h
    have h1 := valD_lt l.length l rfl h.2
    have h2 : 10 ^ l.length ≤ 10 ^ 13 := Nat.pow_le_pow_right (by omega) h.1.2
    have h3 : (10 : Nat) ^ 13 = 10000000000000 := by decide
    show valD l < _
    omega

section
variable {s t : St} {x y : S} {l : Bs} {i : Nat} {w : Bool}

theorem aIndexArr_u8 (n : Nat) (b : UInt8) (h : b.toNat < n) (i o : Nat) : aIndexArr n 1 (Z (.ptr i o)) (I .u8 b.toNat) = some (Z (.ptr i (o + b.toNat))) := by
  have h2 : aIdx (I .u8 (b.toNat : Int)) n = some b.toNat := by simp [aIdx, h]
  simp [aIndexArr, h2]

theorem contains_run (d : Nat) (h : s.get i = some (.cells w digitSet)) (b : UInt8) : R (d + 1) 132 [Z (.ptr i 0), I .u8 b.toNat] s = some (B (isDig b), s) := by
  rw [f132_run]
  unfold f132
  have ix := aIndexArr_u8 256 b b.toNat_lt i 0
  have ld : aLoad1 (Z (.ptr i (0 + b.toNat))) s.get = some (B (isDig b)) := aLoad1_of h (by rw [Nat.zero_add]; exact digitSet_get b)
  simp only [aNil_ptr, bd_some, ix, ld]

theorem trimRight_run (d : Nat) (h : s.get i = some (.cells w digitSet)) (hl : l.length ≤ 8000) : R (d + 2) 124 [Z (.str l), Z (.ptr i 0)] s = some (Z (.str (trimR l)), s) := by
  rw [f124_run]
  unfold f124
  obtain ⟨j, τ, lp, hj, hτ⟩ := loops_inv (f := f124_l1 (R (d + 1)) 8192) (fun q v u => ∃ m : Bs, q = m.length ∧ v = [Z (.str m), Z (.ptr i 0)] ∧ u = s ∧ trimR m = trimR l ∧ m.length ≤ l.length)
    (fun j u => j = .exit 0 [Z (.str (trimR l))] ∧ u = s) (by
    rintro q v u ⟨m, rfl, rfl, rfl, hm, hml⟩
    rcases List.eq_nil_or_concat m with rfl | ⟨r, c, hmr⟩
    · right
      refine ⟨_, u, ?_, (fun v hv => by cases hv), rfl, rfl⟩
      unfold f124_l1
      rw [← hm]
      simp [trimR_nil]
    · rw [List.concat_eq_append] at hmr
      have hlen : m.length = r.length + 1 := by rw [hmr]; simp
      have c0 : 0 < m.length := by omega
      have w1 : IntKind.i64.wrap ((m.length : Int) - 1) = (r.length : Int) := by rw [wrap_in _ (by omega) (by omega)]; omega
      have hat : aAtStr (Z (.str m)) (I .i64 (r.length : Int)) = some (I .u8 c.toNat) := at_str rfl (by rw [hmr]; simp)
      have hc := contains_run d h c
      have pc := aPieceStr_hi (l := m) (m := r.length) (n := (r.length : Int)) rfl (by omega)
      have htk : m.take r.length = r := by rw [hmr]; simp
      rw [htk] at pc
      have hs := trimR_snoc r c
      rw [← hmr, hm] at hs
      cases hd : isDig c with
      | true =>
        left
        rw [hd] at hs hc
        refine ⟨[Z (.str r), Z (.ptr i 0)], u, r.length, ?_, by omega, r, rfl, rfl, rfl, by simpa using hs.symm, by omega⟩
        unfold f124_l1
        simp [c0, w1, hat, hc, pc]
      | false =>
        right
        rw [hd] at hs hc
        refine ⟨.exit 0 [Z (.str (trimR l))], u, ?_, (fun v hv => by cases hv), rfl, rfl⟩
        unfold f124_l1
        have : trimR l = m := by rw [hs, hmr]; simp
        rw [this]
        simp [c0, w1, hat, hc]) 8192 l.length [Z (.str l), Z (.ptr i 0)] s ⟨l, rfl, rfl, rfl, rfl, Nat.le_refl _⟩ (by omega)
  subst hτ; subst hj
  simp [lp]

theorem trimLeft_run (d : Nat) (h : s.get i = some (.cells w digitSet)) (hl : l.length ≤ 8000) : R (d + 2) 123 [Z (.str l), Z (.ptr i 0)] s = some (Z (.str (l.dropWhile isDig)), s) := by
  rw [f123_run]
  unfold f123
  obtain ⟨j, τ, lp, hj, hτ⟩ := loops_inv (f := f123_l1 (R (d + 1)) 8192) (fun q v u => ∃ m : Bs, q = m.length ∧ v = [Z (.str m), Z (.ptr i 0)] ∧ u = s ∧ m.dropWhile isDig = l.dropWhile isDig ∧ m.length ≤ l.length)
    (fun j u => j = .exit 0 [Z (.str (l.dropWhile isDig))] ∧ u = s) (by
    rintro q v u ⟨m, rfl, rfl, rfl, hm, hml⟩
    cases m with
    | nil =>
      right
      refine ⟨_, u, ?_, (fun v hv => by cases hv), rfl, rfl⟩
      unfold f123_l1
      rw [← hm]
      simp
    | cons c r =>
      have hat : aAtStr (Z (.str (c :: r))) (I .i64 0) = some (I .u8 c.toNat) := at_str (j := 0) rfl rfl
      have hc := contains_run d h c
      have pc := aPieceStr_lo (l := c :: r) (m := 1) (n := 1) rfl (by simp)
      rw [List.dropWhile_cons] at hm
      cases hd : isDig c with
      | true =>
        left
        rw [hd] at hm hc
        refine ⟨[Z (.str r), Z (.ptr i 0)], u, r.length, ?_, by simp, r, rfl, rfl, rfl, by simpa using hm, by simp at hml; omega⟩
        unfold f123_l1
        simp [hat, hc, pc]
      | false =>
        right
        rw [hd] at hm hc
        refine ⟨.exit 0 [Z (.str (l.dropWhile isDig))], u, ?_, (fun v hv => by cases hv), rfl, rfl⟩
        unfold f123_l1
        have : l.dropWhile isDig = c :: r := by rw [← hm]; simp
        rw [this]
        simp [hat, hc]) 8192 l.length [Z (.str l), Z (.ptr i 0)] s ⟨l, rfl, rfl, rfl, rfl, Nat.le_refl _⟩ (by omega)
  subst hτ; subst hj
  simp [lp]

theorem setRange_all {vs xs : List S} (h : vs.length = xs.length) : setRange vs 0 xs = xs := by
  rw [setRange_eq _ _ _ (by omega), List.take_zero, List.nil_append, List.drop_eq_nil_of_le (by omega), List.append_nil]

theorem makeSet_run (d : Nat) : R (d + 1) 122 [Z (.str digits)] s = some (.tup [.agg digitSet, .s (.bool true)], s) := runQ_prim (prim_set _)

set_option maxRecDepth 100000 in
theorem trim_run (d : Nat) (wf : s.wf) (h0 : l ≠ []) (hl : l.length ≤ 8000) : ∃ t, R (d + 4) 108 [Z (.str l), Z (.str digits)] s = some (Z (.str ((trimR l).dropWhile isDig)), t) ∧ Gr s t := by
  rw [f108_run]
  unfold f108
  generalize hq : nCells _ = q
  obtain ⟨z, rfl, hz⟩ : ∃ z : List S, q = nCells z ∧ z.length = 256 := ⟨_, hq.symm, rfl⟩
  clear hq
  have e1 := makeSet_run (s := s) (d + 2)
  have nw : aNew s (nCells z) = some (Z (.ptr s.size 0), s.push (.cells true z)) := rfl
  have hb : (V.agg digitSet).cells.length = 256 ∧ 0 + 256 ≤ z.length := ⟨digitSet_len, by omega⟩
  obtain ⟨t, ht⟩ : ∃ t, t = (s.push (.cells true z)).set s.size (.cells true digitSet) := ⟨_, rfl⟩
  have st : aStore 256 (Z (.ptr s.size 0)) (.v (.agg digitSet)) (s.push (.cells true z)) = some (tt, t) := by
    simp only [aStore, St.get_push_same, if_pos hb]
    rw [show (V.agg digitSet).cells = digitSet from rfl, setRange_all (by rw [hz, digitSet_len]), ← ht]
  have g : Gr s t := by
    rw [ht]
    exact ⟨St.wf_set (St.wf_push wf _) (by simp) _, by simp, fun b hb => by rw [St.get_set_ne _ _ (by omega), St.get_push_ne _ _ (by omega)]⟩
  have gn : t.get s.size = some (.cells true digitSet) := by rw [ht]; exact St.get_set_same _ _ _
  have r1 := trimRight_run (l := l) (d + 1) gn hl
  have hl2 : (trimR l).length ≤ 8000 := by
    have : (trimR l).length ≤ l.length := by
      unfold trimR
      rw [List.length_reverse]
      have := (List.dropWhile_sublist (p := isDig) (l := l.reverse)).length_le
      simpa using this
    omega
  have r2 := trimLeft_run (l := trimR l) (d + 1) gn hl2
  have hd : ¬ digits = [] := by decide
  have hdl : (digits.length : Int) = 10 := rfl
  refine ⟨t, ?_, g⟩
  simp only [Nat.add_assoc, Nat.reduceAdd] at e1 r1 r2
  generalize R (d + 3) = r at *
  generalize digits = dg at *
  simp [h0, hd, hdl, e1, aExtract, nw, st, r1, r2]

/-- A number of digits, parsed. -/
theorem parseUint_run (d : Nat) (wf : s.wf) (h0 : l ≠ []) (hl : l.length ≤ 13) (hd : l.all isDig = true) : ∃ t, R (d + 1) 135 [Z (.str l), I .i64 10, I .i64 64] s = some (.tup [.s (.int .u64 (valD l)), .s .nili], t) ∧ Gr s t := by
  rw [f135_run]
  unfold f135
  obtain ⟨t, ht⟩ : ∃ t, t = s.push (.cells true (U l)) := ⟨_, rfl⟩
  have nw : aNew s (nBytes (Z (.str l))) = some (Z (.sl s.size 0 l.length (.grown 1)), t) := by rw [ht]; rfl
  have g : Gr s t := by rw [ht]; exact Gr.push wf _
  have rb : RB t (.sl s.size 0 l.length (.grown 1)) l := ⟨by simp, .inr ⟨s.size, 0, _, true, U l, rfl, by rw [ht]; exact St.get_push_same _ _, by simp, by rw [List.drop_zero]; exact List.take_of_length_le (by simp)⟩, rfl⟩
  have hv := valD_lt
  have hdg : ∀ (k : Nat) (b : UInt8), l[k]? = some b → 48 ≤ b.toNat ∧ b.toNat ≤ 57 := fun k b hb => by
    rw [List.all_eq_true] at hd
    exact isDig_iff.1 (hd b (List.mem_of_getElem? hb))
  have hvt : ∀ k, k ≤ 13 → valD (l.take k) < 10000000000000 := fun k hk => by
    have h1 := valD_lt (l.take k).length (l.take k) rfl (by rw [List.all_eq_true] at hd ⊢; exact fun x hx => hd x (List.mem_of_mem_take hx))
    have h2 : 10 ^ (l.take k).length ≤ 10 ^ 13 := Nat.pow_le_pow_right (by omega) (by rw [List.length_take]; omega)
    have h3 : (10 : Nat) ^ 13 = 10000000000000 := by decide
    omega
  obtain ⟨j, τ, lp, hj, hτ⟩ := loops_inv (f := f135_l1 (R d) 8192) (fun q v u => ∃ k : Nat, q + k = l.length ∧ v = [I .i64 10, B false, Z (.str l), I .u64 1844674407370955162, I .u64 18446744073709551615, B false, I .u64 (valD (l.take k)), Z (.sl s.size 0 l.length (.grown 1)), I .i64 l.length, I .i64 k] ∧ u = t)
    (fun j u => j = .exit 3 [Z (.str l), B false, I .u64 (valD l)] ∧ u = t) (by
    rintro q v u ⟨k, hk, rfl, rfl⟩
    by_cases hkl : k < l.length
    · left
      have hc : l[k]? = some l[k] := List.getElem?_eq_getElem hkl
      obtain ⟨p, ix, ld⟩ := RB.atB rb (n := (k : Int)) rfl hc
      obtain ⟨d1, d2⟩ := hdg k _ hc
      have c0 : (k : Int) < (l.length : Int) := by omega
      have w1 : IntKind.i64.wrap ((k : Int) + 1) = ((k + 1 : Nat) : Int) := by rw [wrap_in _ (by omega) (by omega)]; omega
      have hsn : valD (l.take (k + 1)) = valD (l.take k) * 10 + (l[k].toNat - 48) := by rw [List.take_add_one, hc, Option.toList_some, valD_snoc]
      have hb0 := hvt k (by omega)
      have hb1 := hvt (k + 1) (by omega)
      have k1 : ¬ ((l[k].toNat : Int) = 95) := by omega
      have k2 : (48 : Int) ≤ (l[k].toNat : Int) := by omega
      have k3 : (l[k].toNat : Int) ≤ 57 := by omega
      obtain ⟨D, hD⟩ : ∃ D : Int, D = (l[k].toNat : Int) - 48 := ⟨_, rfl⟩
      have w8 : IntKind.u8.wrap ((l[k].toNat : Int) - 48) = D := by
        have := wrap8 (l[k].toNat - 48)
        rw [show (((l[k].toNat - 48 : Nat)) : Int) = (l[k].toNat : Int) - 48 by omega] at this
        rw [this, hD]
        omega
      have w10 : IntKind.u8.wrap 10 = 10 := rfl
      have w10' : IntKind.u64.wrap 10 = 10 := rfl
      have k4 : ¬ (10 : Int) ≤ D := by omega
      have k5 : ¬ (1844674407370955162 : Int) ≤ (valD (l.take k) : Int) := by omega
      have wm : IntKind.u64.wrap ((valD (l.take k) : Int) * 10) = (valD (l.take k) : Int) * 10 := wrap_u64_in _ (by omega) (by omega)
      have wd : IntKind.u64.wrap D = D := wrap_u64_in _ (by omega) (by omega)
      have wa : IntKind.u64.wrap ((valD (l.take k) : Int) * 10 + D) = (valD (l.take (k + 1)) : Int) := by
        rw [wrap_u64_in _ (by omega) (by omega), hsn]
        omega
      have k6 : ¬ ((valD (l.take (k + 1)) : Int) < (valD (l.take k) : Int) * 10) := by omega
      have k7 : ¬ ((18446744073709551615 : Int) < (valD (l.take (k + 1)) : Int)) := by omega
      refine ⟨[I .i64 10, B false, Z (.str l), I .u64 1844674407370955162, I .u64 18446744073709551615, B false, I .u64 (valD (l.take (k + 1))), Z (.sl s.size 0 l.length (.grown 1)), I .i64 l.length, I .i64 ((k + 1 : Nat) : Int)], u, q - 1, ?_, by omega, k + 1, by omega, rfl, rfl⟩
      unfold f135_l1
      generalize ((k + 1 : Nat) : Int) = K1 at w1 ⊢
      generalize (valD (l.take (k + 1)) : Int) = V1 at wa k6 k7 ⊢
      generalize (valD (l.take k) : Int) = V0 at k5 wm wa k6 ⊢
      generalize (l[k].toNat : Int) = C at ld k1 k2 k3 w8
      generalize (k : Int) = K at *
      generalize (l.length : Int) = L at *
      simp [c0, ix, ld, k1, k2, k3, w8, w10, w10', k4, k5, wm, wd, wa, k6, k7, w1]
    · right
      have hk' : k = l.length := by omega
      subst hk'
      refine ⟨.exit 3 [Z (.str l), B false, I .u64 (valD l)], u, ?_, (fun v hv => by cases hv), rfl, rfl⟩
      unfold f135_l1
      rw [List.take_length]
      simp) 8192 l.length [I .i64 10, B false, Z (.str l), I .u64 1844674407370955162, I .u64 18446744073709551615, B false, I .u64 0, Z (.sl s.size 0 l.length (.grown 1)), I .i64 l.length, I .i64 0] t ⟨0, rfl, rfl, rfl⟩ (by omega)
  subst hτ; subst hj
  refine ⟨τ, ?_, g⟩
  have w64 : IntKind.u64.wrap 64 = 64 := rfl
  have sh : aBin .shl (I .u64 1) (I .u64 64) = some (I .u64 0) := by rfl
  have sb : IntKind.u64.wrap (-1) = 18446744073709551615 := by rfl
  simp [h0, w64, sh, sb, nw, lp, retT, allV]

theorem parseInt_run (d : Nat) (wf : s.wf) (h0 : l ≠ []) (hl : l.length ≤ 13) (hd : l.all isDig = true) : ∃ t, R (d + 3) 109 [Z (.str l), I .i64 10, I .i64 64] s = some (.tup [.s (.int .i64 (valD l)), .s .nili], t) ∧ Gr s t := by
  obtain ⟨t, e, g⟩ := parseUint_run d wf h0 hl hd
  have hv := valD_lt l.length l rfl hd
  have h13 : 10 ^ l.length ≤ 10 ^ 13 := Nat.pow_le_pow_right (by omega) hl
  have h3 : (10 : Nat) ^ 13 = 10000000000000 := by decide
  have key : R (d + 2) 127 [Z (.str l), I .i64 10, I .i64 64] s = some (.tup [.s (.int .i64 (valD l)), .s .nili], t) := by
    rw [f127_run]
    unfold f127
    obtain ⟨c, r, rfl⟩ : ∃ c r, l = c :: r := by cases l with
      | nil => exact absurd rfl h0
      | cons c r => exact ⟨c, r, rfl⟩
    have hat : aAtStr (Z (.str (c :: r))) (I .i64 0) = some (I .u8 c.toNat) := at_str (j := 0) rfl rfl
    have hc : 48 ≤ c.toNat ∧ c.toNat ≤ 57 := isDig_iff.1 (by simp at hd; exact hd.1)
    have k1 : ¬ ((c.toNat : Int) = 43) := by omega
    have k2 : ¬ ((c.toNat : Int) = 45) := by omega
    have n1 : neB .i (Z .nili) (Z .nili) = some (B false) := rfl
    have w63 : IntKind.u64.wrap 63 = 63 := rfl
    have sh : aBin .shl (I .u64 1) (I .u64 63) = some (I .u64 9223372036854775808) := by rfl
    have k3 : ¬ ((9223372036854775808 : Int) ≤ (valD (c :: r) : Int)) := by omega
    have wv : IntKind.i64.wrap (valD (c :: r) : Int) = (valD (c :: r) : Int) := wrap_in _ (by omega) (by omega)
    have w64 : IntKind.i64.wrap 63 = 63 := rfl
    generalize (valD (c :: r) : Int) = V at *
    generalize (c.toNat : Int) = C at *
    generalize R (d + 1) = rr at *
    simp [hat, k1, k2, e, aExtract, n1, w63, w64, sh, k3, wv, retT, allV]
  refine ⟨t, ?_, g⟩
  rw [f109_run]
  unfold f109
  have n1 : neB .i (Z .nili) (Z .nili) = some (B false) := rfl
  simp [key, aExtract, n1, retT, allV]

theorem number_run (d : Nat) (wf : s.wf) : ∃ t, R (d + 5) 96 [Z (.str l)] s = some (.tup [.s (.int .i64 (numV l)), .s (.bool (numOk l))], t) ∧ Gr s t := by
  rw [f96_run]
  unfold f96
  by_cases h1 : 1 ≤ l.length
  · by_cases h2 : l.length ≤ 13
    · have hne : l ≠ [] := fun e => by rw [e] at h1; simp at h1
      obtain ⟨t, e1, g1⟩ := trim_run d wf hne (by omega)
      have c1 : ¬ ((l.length : Int) < 1) := by omega
      have c2 : ¬ ((13 : Int) < (l.length : Int)) := by omega
      have hb1 : Nat.ble 1 l.length = true := Nat.ble_eq_true_of_le h1
      have hb2 : Nat.ble l.length 13 = true := Nat.ble_eq_true_of_le h2
      by_cases hall : l.all isDig = true
      · have hnil := (trimD_nil l).2 hall
        rw [hnil] at e1
        obtain ⟨t2, e2, g2⟩ := parseInt_run (l := l) (d + 1) g1.wf hne h2 hall
        have hok : numOk l = true := by simp [numOk, hb1, hb2, hall]
        have hv : numV l = valD l := by simp [numV, hok]
        have n1 : eqB .i (Z .nili) (Z .nili) = some (B true) := rfl
        refine ⟨t2, ?_, g1.trans g2⟩
        rw [hok, hv]
        simp only [digits] at e1
        generalize R (d + 4) = r at *
        simp [c1, c2, e1, e2, aExtract, n1, retT, allV]
      · have hnn : ¬ ((trimR l).dropWhile isDig = []) := fun e => hall ((trimD_nil l).1 e)
        have hok : numOk l = false := by simp only [numOk, hb1, hb2, Bool.true_and]; simpa using hall
        have hv : numV l = 0 := by simp [numV, hok]
        refine ⟨t, ?_, g1⟩
        rw [hok, hv]
        simp only [digits] at e1
        generalize R (d + 4) = r at *
        simp [c1, c2, e1, hnn, retT, allV]
    · have c1 : ¬ ((l.length : Int) < 1) := by omega
      have c2 : (13 : Int) < (l.length : Int) := by omega
      have hok : numOk l = false := by
        have : Nat.ble l.length 13 = false := by
          rw [Bool.eq_false_iff]
          intro h
          exact h2 (Nat.le_of_ble_eq_true h)
        simp [numOk, this]
      have hv : numV l = 0 := by simp [numV, hok]
      refine ⟨s, ?_, Gr.refl wf⟩
      rw [hok, hv]
      simp [c1, c2, retT, allV]
  · have c1 : ((l.length : Int) < 1) := by omega
    have hok : numOk l = false := by
      have : Nat.ble 1 l.length = false := by
        rw [Bool.eq_false_iff]
        intro h
        exact h1 (Nat.le_of_ble_eq_true h)
      simp [numOk, this]
    have hv : numV l = 0 := by simp [numV, hok]
    refine ⟨s, ?_, Gr.refl wf⟩
    rw [hok, hv]
    simp [c1, retT, allV]
end
end Go.Proofs.YtlhbidbdmdcdeaaGreatDoor
