/-
  Several texts in one: what functions that the law reaches compute. No conditions but those named in each line.
-/
import Derived.Test.YtlhbidbdmdcdeaaGreatDoorFnsA
import Derived.Test.YtlhbidbdmdcdeaaGreatDoorFnsD
/-
  slices.Insert of one element ahead of another at a slice of unknown capacity. No conditions.
-/
namespace Go.Proofs.YtlhbidbdmdcdeaaGreatDoor
open Go Go.Abs Go.Abs.F
set_option linter.unusedVariables false

theorem over_ok : overT Tryz.prog 89 = true := by kernel_rfl

theorem ins_grow (a w b z : List S) (hz : z.length = w.length + b.length) : setRange (setRange (a ++ z) a.length w) (a.length + w.length) b = a ++ w ++ b := by
  rw [setRange_eq (a ++ z) a.length w (by simp; omega), List.take_left, setRange_eq _ _ b (by simp; omega)]
  rw [List.take_left' (by simp), List.drop_eq_nil_of_le (by simp; omega), List.append_nil]

theorem ins_room (a w b r : List S) (hr : w.length ≤ r.length) : (setRange (setRange (a ++ b ++ r) (a.length + w.length) b) a.length w).take (a.length + w.length + b.length) = a ++ w ++ b := by
  have hX : ∃ q, setRange (a ++ b ++ r) (a.length + w.length) b = a ++ (q ++ b ++ r.drop w.length) ∧ q.length = w.length := by
    refine ⟨(b ++ r).take w.length, ?_, by simp; omega⟩
    rw [setRange_eq _ _ b (by simp; omega), List.append_assoc a b r, List.take_append, List.drop_append]
    have e1 : a.take (a.length + w.length) = a := List.take_of_length_le (by omega)
    have e2 : a.drop (a.length + w.length + b.length) = [] := List.drop_eq_nil_of_le (by omega)
    have e3 : a.length + w.length + b.length - a.length = b.length + w.length := by omega
    rw [e1, e2, e3, Nat.add_sub_cancel_left, List.nil_append, List.drop_append, List.drop_eq_nil_of_le (by omega), List.nil_append, Nat.add_sub_cancel_left]
    simp only [List.append_assoc]
  obtain ⟨q, hq, hl⟩ := hX
  rw [hq, setRange_eq _ _ w (by simp; omega), List.take_left, List.drop_append, List.drop_eq_nil_of_le (by omega), List.nil_append, Nat.add_sub_cancel_left, List.append_assoc q, List.drop_left' hl, ← List.append_assoc (a ++ w), List.take_left' (by simp; omega)]

section
variable {σ : St} {i j p n k c : Nat} {vs us : List S}

theorem ins_facts (hkn : k < n) (hn : n ≤ 1000000) :
    aBin .eql (I .i64 1) (I .i64 0) = some (B false) ∧ aBin .eql (I .i64 ((k : Nat) : Int)) (I .i64 ((n : Nat) : Int)) = some (B false) ∧ aBin .add (I .i64 ((n : Nat) : Int)) (I .i64 1) = some (I .i64 ((n + 1 : Nat) : Int)) ∧
      aBin .add (I .i64 ((k : Nat) : Int)) (I .i64 1) = some (I .i64 ((k + 1 : Nat) : Int)) ∧ aBin .sub (I .i64 ((n + 1 : Nat) : Int)) (I .i64 ((k : Nat) : Int)) = some (I .i64 ((n + 1 - k : Nat) : Int)) := by
  have h1 : ¬ (((k : Nat) : Int) = ((n : Nat) : Int)) := by omega
  have h2 : IntKind.i64.wrap ((n : Int) + 1) = ((n + 1 : Nat) : Int) := by rw [wrap_in _ (by omega) (by omega)]; omega
  have h3 : IntKind.i64.wrap ((k : Int) + 1) = ((k + 1 : Nat) : Int) := by rw [wrap_in _ (by omega) (by omega)]; omega
  have h4 : IntKind.i64.wrap (((n + 1 : Nat) : Int) - (k : Int)) = ((n + 1 - k : Nat) : Int) := by rw [wrap_in _ (by omega) (by omega)]; omega
  refine ⟨rfl, ?_, ?_, ?_, ?_⟩
  · rw [eql_int, decide_eq_false h1]
  · rw [add_int, h2]
  · rw [add_int, h3]
  · rw [sub_int, h4]

theorem insN_run (d : Nat) (wf : σ.wf) (hi : σ.get i = some (.cells true vs)) (hj : σ.get j = some (.cells true us)) (hkn : k < n) (hn : n ≤ 1000000) (hv : n * 5 ≤ vs.length) (hij : i ≠ j) (hp : p + 5 ≤ us.length) :
    ∃ τ, f74 (runQ Tryz.prog 8 noPrim d) 8 (Z (.sl i 0 n (.known n))) (I .i64 k) (Z (.sl j p 1 (.known 1))) σ = some (Z (.sl σ.size 0 (n + 1) (.grown 5)), τ) ∧ τ.size = σ.size + 1 ∧
      τ.get σ.size = some (.cells true (vs.take (k * 5) ++ (us.drop p).take 5 ++ (vs.drop (k * 5)).take ((n - k) * 5))) ∧ ∀ b, b < σ.size → τ.get b = σ.get b := by
  obtain ⟨f1, f2, f3, f4, f5⟩ := ins_facts hkn hn
  obtain ⟨N, hN⟩ : ∃ N, N = σ.size := ⟨_, rfl⟩
  obtain ⟨a, ha⟩ : ∃ a, a = vs.take (k * 5) := ⟨_, rfl⟩
  obtain ⟨w, hw⟩ : ∃ w, w = (us.drop p).take 5 := ⟨_, rfl⟩
  obtain ⟨b, hb⟩ : ∃ b, b = (vs.drop (k * 5)).take ((n - k) * 5) := ⟨_, rfl⟩
  have hla : a.length = k * 5 := by rw [ha, List.length_take]; omega
  have hlw : w.length = 5 := by rw [hw]; simp; omega
  have hlb : b.length = (n - k) * 5 := by rw [hb]; simp; omega
  obtain ⟨z, hz⟩ : ∃ z, z = zeros (n + 1 - k) zI := ⟨_, rfl⟩
  have hlz : z.length = (n + 1 - k) * 5 := by rw [hz]; exact zeros_len (e := 5) rfl _
  have le0 : aLenSl (Z (.sl i 0 n (.known n))) = some (I .i64 ((n : Nat) : Int)) := rfl
  have le2 : aLenSl (Z (.sl j p 1 (.known 1))) = some (I .i64 1) := rfl
  have cp : aCap (Z (.sl i 0 n (.known n))) = some (I .i64 ((n : Nat) : Int)) := rfl
  have gt : aBin .gtr (I .i64 ((n + 1 : Nat) : Int)) (I .i64 ((n : Nat) : Int)) = some (B true) := by
    rw [gtr_int, decide_eq_true (by omega)]
  have p1 : aPieceSl 5 (Z (.sl i 0 n (.known n))) (some (I .i64 ((k : Nat) : Int))) none none = some (Z (.sl i (k * 5) (n - k) (.known (n - k)))) := by
    have h1 : ¬ n = k := by omega
    simp only [aPieceSl, aBounds_lo (show k ≤ n by omega) (Nat.le_refl n), if_neg h1, Nat.zero_add]
  have p2 : aPieceSl 5 (Z (.sl i 0 n (.known n))) none (some (I .i64 ((k : Nat) : Int))) none = some (Z (.sl i 0 k (.known n))) := by
    simp only [aPieceSl, aBounds_hi (show k ≤ n by omega), Nat.zero_mul, Nat.add_zero, ite_self, Nat.sub_zero]
  obtain ⟨s1, hs1⟩ : ∃ s1, s1 = σ.push (.cells true (a ++ z)) := ⟨_, rfl⟩
  have gr : aGrow 5 40 [.int .i64 0, .int .i64 0, .int .i64 0, .int .i64 0, .int .u32 0] (Z (.sl i 0 k (.known n))) (I .i64 ((n + 1 - k : Nat) : Int)) σ = some (Z (.sl N 0 (n + 1) (.grown 5)), s1) := by
    have h1 : 0 < ((n + 1 - k : Nat) : Int) ∧ k ≤ n ∧ n < k + ((n + 1 - k : Nat) : Int).toNat ∧ (k + ((n + 1 - k : Nat) : Int).toNat) * 40 ≤ 140737488355328 ∧ (5 : Nat) ≠ 0 ∧ 0 + k * 5 ≤ vs.length := by
      rw [Int.toNat_natCast]
      refine ⟨by omega, by omega, by omega, by omega, by decide, by omega⟩
    have h2 : k + ((n + 1 - k : Nat) : Int).toNat = n + 1 := by omega
    simp only [aGrow, hi]
    rw [if_pos h1, h2, Int.toNat_natCast, List.drop_zero, ← ha, hs1, hz, hN]
  have g1 : s1.get N = some (.cells true (a ++ z)) := by rw [hs1, hN]; exact St.get_push_same _ _
  have o1 : ∀ q, q ≠ N → s1.get q = σ.get q := fun q hq => by rw [hs1]; exact St.get_push_ne _ _ (by rw [← hN]; exact hq)
  have p3 : aPieceSl 5 (Z (.sl N 0 (n + 1) (.grown 5))) (some (I .i64 ((k : Nat) : Int))) none none = some (Z (.sl N (k * 5) (n + 1 - k) (.grown 5))) := by
    simp only [aPieceSl, aBounds_lo (show k ≤ n + 1 by omega) (Nat.le_refl (n + 1)), if_pos trivial, if_pos (show k < n + 1 by omega), Nat.zero_add]
  have p4 : aPieceSl 5 (Z (.sl N 0 (n + 1) (.grown 5))) (some (I .i64 ((k + 1 : Nat) : Int))) none none = some (Z (.sl N ((k + 1) * 5) (n - k) (.grown 5))) := by
    have h1 : n + 1 - (k + 1) = n - k := by omega
    simp only [aPieceSl, aBounds_lo (show k + 1 ≤ n + 1 by omega) (Nat.le_refl (n + 1)), if_pos trivial, if_pos (show k + 1 < n + 1 by omega), Nat.zero_add, h1]
  have jN : j ≠ N := by have := wf.lt hj; omega
  have iN : i ≠ N := by have := wf.lt hi; omega
  have hj1 : s1.get j = some (.cells true us) := by rw [o1 j jN]; exact hj
  have src1 : aSrc 5 (Z (.sl j p 1 (.known 1))) s1.get = some (1, w) := by
    simp only [aSrc, if_neg (show ¬ (1 : Nat) = 0 by decide), hj1, Nat.one_mul, if_pos hp, hw]
  have hm1 : Nat.min 1 (n + 1 - k) = 1 := by show min 1 (n + 1 - k) = 1; omega
  obtain ⟨A1, hA1⟩ : ∃ A1, A1 = setRange (a ++ z) (k * 5) w := ⟨_, rfl⟩
  obtain ⟨s2, hs2⟩ : ∃ s2, s2 = s1.set N (.cells true A1) := ⟨_, rfl⟩
  have cy1 : aCopy 5 (Z (.sl N (k * 5) (n + 1 - k) (.grown 5))) (Z (.sl j p 1 (.known 1))) s1 = some (I .i64 ((1 : Nat) : Int), s2) := by
    have h1 : k * 5 + 1 * 5 ≤ (a ++ z).length := by simp; omega
    have h2 : w.take (1 * 5) = w := List.take_of_length_le (by omega)
    simp only [aCopy, src1, g1, hm1]
    rw [if_pos h1, h2, hs2, hA1]
  have g2 : s2.get N = some (.cells true A1) := by rw [hs2]; exact St.get_set_same _ _ _
  have hi2 : s2.get i = some (.cells true vs) := by rw [hs2, St.get_set_ne _ _ iN, o1 i iN]; exact hi
  have hnk : ¬ n - k = 0 := by omega
  have src2 : aSrc 5 (Z (.sl i (k * 5) (n - k) (.known (n - k)))) s2.get = some (n - k, b) := by
    have h1 : k * 5 + (n - k) * 5 ≤ vs.length := by omega
    simp only [aSrc, if_neg hnk, hi2, if_pos h1, hb]
  have hm2 : Nat.min (n - k) (n - k) = n - k := by show min (n - k) (n - k) = n - k; omega
  obtain ⟨A2, hA2⟩ : ∃ A2, A2 = setRange A1 ((k + 1) * 5) b := ⟨_, rfl⟩
  obtain ⟨s3, hs3⟩ : ∃ s3, s3 = s2.set N (.cells true A2) := ⟨_, rfl⟩
  have cy2 : aCopy 5 (Z (.sl N ((k + 1) * 5) (n - k) (.grown 5))) (Z (.sl i (k * 5) (n - k) (.known (n - k)))) s2 = some (I .i64 ((n - k : Nat) : Int), s3) := by
    have h1 : (k + 1) * 5 + (n - k) * 5 ≤ A1.length := by rw [hA1, setRange_length]; simp; omega
    have h2 : b.take ((n - k) * 5) = b := List.take_of_length_le (by omega)
    simp only [aCopy, src2, g2, hm2]
    rw [if_pos h1, h2, hs3, hA2]
  have hfin : A2 = a ++ w ++ b := by
    have := ins_grow a w b z (by omega)
    rw [hla, hlw] at this
    rw [hA2, hA1, Nat.add_mul, Nat.one_mul]
    exact this
  refine ⟨s3, ?_, by rw [hs3, hs2, hs1]; rfl, by rw [← hN, hs3, St.get_set_same, hfin, ha, hw, hb], fun q hq => ?_⟩
  · unfold f74
    rw [← hN]
    clear hi hj hi2 hj1 hv hp wf
    have br1 : ((1 : Nat) : Int) = 1 := rfl
    rw [br1] at cy1
    generalize n + 1 - k = M at *
    generalize ((n + 1 : Nat) : Int) = N1 at *
    generalize ((k + 1 : Nat) : Int) = K1 at *
    generalize ((M : Nat) : Int) = MI at *
    generalize ((n : Nat) : Int) = NI at *
    generalize ((k : Nat) : Int) = KI at *
    simp only [p1, le0, le2, bd_some, f1, br_false, f2, f3, cp, gt, br_true, p2, f5, gr, bd2_some, p3, cy1, f4, p4, cy2]
  · rw [hs3, hs2, St.get_set_ne _ _ (by omega), St.get_set_ne _ _ (by omega), o1 q (by omega)]

theorem insR_run (d : Nat) (hi : σ.get i = some (.cells true vs)) (hj : σ.get j = some (.cells true us)) (hkn : k < n) (hn : n ≤ 1000000) (hc : n + 1 ≤ c) (hv : vs.length = c * 5) (hij : i ≠ j) (hp : p + 5 ≤ us.length) :
    ∃ τ B, f74 (runQ Tryz.prog 8 noPrim d) 8 (Z (.sl i 0 n (.known c))) (I .i64 k) (Z (.sl j p 1 (.known 1))) σ = some (Z (.sl i 0 (n + 1) (.known c)), τ) ∧ τ.size = σ.size ∧
      τ.get i = some (.cells true B) ∧ B.length = vs.length ∧ B.take ((n + 1) * 5) = vs.take (k * 5) ++ (us.drop p).take 5 ++ (vs.drop (k * 5)).take ((n - k) * 5) ∧ ∀ b, b ≠ i → τ.get b = σ.get b := by
  obtain ⟨f1, f2, f3, f4, f5⟩ := ins_facts hkn hn
  obtain ⟨a, ha⟩ : ∃ a, a = vs.take (k * 5) := ⟨_, rfl⟩
  obtain ⟨w, hw⟩ : ∃ w, w = (us.drop p).take 5 := ⟨_, rfl⟩
  obtain ⟨b, hb⟩ : ∃ b, b = (vs.drop (k * 5)).take ((n - k) * 5) := ⟨_, rfl⟩
  obtain ⟨r, hr⟩ : ∃ r, r = vs.drop (n * 5) := ⟨_, rfl⟩
  have hla : a.length = k * 5 := by rw [ha, List.length_take]; omega
  have hlw : w.length = 5 := by rw [hw]; simp; omega
  have hlb : b.length = (n - k) * 5 := by rw [hb]; simp; omega
  have hlr : 5 ≤ r.length := by rw [hr]; simp; omega
  have hvs : vs = a ++ b ++ r := by
    have h1 : vs.drop (k * 5) = b ++ r := by
      rw [hb, hr]
      have : n * 5 = k * 5 + (n - k) * 5 := by omega
      rw [this, ← List.drop_drop]
      exact (List.take_append_drop _ _).symm
    rw [List.append_assoc, ← h1, ha]
    exact (List.take_append_drop _ _).symm
  have le0 : aLenSl (Z (.sl i 0 n (.known c))) = some (I .i64 ((n : Nat) : Int)) := rfl
  have le2 : aLenSl (Z (.sl j p 1 (.known 1))) = some (I .i64 1) := rfl
  have cp : aCap (Z (.sl i 0 n (.known c))) = some (I .i64 ((c : Nat) : Int)) := rfl
  have gt : aBin .gtr (I .i64 ((n + 1 : Nat) : Int)) (I .i64 ((c : Nat) : Int)) = some (B false) := by
    rw [gtr_int, decide_eq_false (by omega)]
  have p0 : aPieceSl 5 (Z (.sl i 0 n (.known c))) (some (I .i64 ((k : Nat) : Int))) none none = some (Z (.sl i (k * 5) (n - k) (.known (c - k)))) := by
    have h1 : ¬ c = k := by omega
    simp only [aPieceSl, aBounds_lo (show k ≤ n by omega) (show n ≤ c by omega), if_neg h1, Nat.zero_add]
  have p1 : aPieceSl 5 (Z (.sl i 0 n (.known c))) none (some (I .i64 ((n + 1 : Nat) : Int))) none = some (Z (.sl i 0 (n + 1) (.known c))) := by
    simp only [aPieceSl, aBounds_hi hc, Nat.zero_mul, Nat.add_zero, ite_self, Nat.sub_zero]
  have p2 : aPieceSl 5 (Z (.sl i 0 (n + 1) (.known c))) (some (I .i64 ((k + 1 : Nat) : Int))) none none = some (Z (.sl i ((k + 1) * 5) (n - k) (.known (c - (k + 1))))) := by
    have h1 : ¬ c = k + 1 := by omega
    have h2 : n + 1 - (k + 1) = n - k := by omega
    simp only [aPieceSl, aBounds_lo (show k + 1 ≤ n + 1 by omega) hc, if_neg h1, Nat.zero_add, h2]
  have p3 : aPieceSl 5 (Z (.sl i 0 (n + 1) (.known c))) (some (I .i64 ((k : Nat) : Int))) none none = some (Z (.sl i (k * 5) (n + 1 - k) (.known (c - k)))) := by
    have h1 : ¬ c = k := by omega
    simp only [aPieceSl, aBounds_lo (show k ≤ n + 1 by omega) hc, if_neg h1, Nat.zero_add]
  have ov : xOver Tryz.prog 89 [Z (.sl j p 1 (.known 1)), Z (.sl i ((k + 1) * 5) (n - k) (.known (c - (k + 1))))] σ = some (B false, σ) := by
    have h1 : Nat.beq j i = false := by
      cases h : Nat.beq j i with
      | false => rfl
      | true => exact absurd (Nat.eq_of_beq_eq_true h).symm hij
    simp only [xOver, aOver, hi, hj, h1, over_ok]
  have no : aUn .not (B false) = some (B true) := rfl
  have src1 : aSrc 5 (Z (.sl i (k * 5) (n + 1 - k) (.known (c - k)))) σ.get = some (n + 1 - k, (vs.drop (k * 5)).take ((n + 1 - k) * 5)) := by
    have h1 : k * 5 + (n + 1 - k) * 5 ≤ vs.length := by omega
    simp only [aSrc, if_neg (show ¬ n + 1 - k = 0 by omega), hi, if_pos h1]
  have hm1 : Nat.min (n + 1 - k) (n - k) = n - k := by show min (n + 1 - k) (n - k) = n - k; omega
  have hbt : ((vs.drop (k * 5)).take ((n + 1 - k) * 5)).take ((n - k) * 5) = b := by
    rw [List.take_take, hb]
    congr 1; omega
  obtain ⟨A1, hA1⟩ : ∃ A1, A1 = setRange vs ((k + 1) * 5) b := ⟨_, rfl⟩
  obtain ⟨s1, hs1⟩ : ∃ s1, s1 = σ.set i (.cells true A1) := ⟨_, rfl⟩
  have cy1 : aCopy 5 (Z (.sl i ((k + 1) * 5) (n - k) (.known (c - (k + 1))))) (Z (.sl i (k * 5) (n + 1 - k) (.known (c - k)))) σ = some (I .i64 ((n - k : Nat) : Int), s1) := by
    have h1 : (k + 1) * 5 + (n - k) * 5 ≤ vs.length := by omega
    simp only [aCopy, src1, hi, hm1]
    rw [if_pos h1, hbt, hs1, hA1]
  have g1 : s1.get i = some (.cells true A1) := by rw [hs1]; exact St.get_set_same _ _ _
  have hj1 : s1.get j = some (.cells true us) := by rw [hs1, St.get_set_ne _ _ (fun h => hij h.symm)]; exact hj
  have src2 : aSrc 5 (Z (.sl j p 1 (.known 1))) s1.get = some (1, w) := by
    simp only [aSrc, if_neg (show ¬ (1 : Nat) = 0 by decide), hj1, Nat.one_mul, if_pos hp, hw]
  have hm2 : Nat.min 1 (n + 1 - k) = 1 := by show min 1 (n + 1 - k) = 1; omega
  obtain ⟨A2, hA2⟩ : ∃ A2, A2 = setRange A1 (k * 5) w := ⟨_, rfl⟩
  obtain ⟨s2, hs2⟩ : ∃ s2, s2 = s1.set i (.cells true A2) := ⟨_, rfl⟩
  have hl1 : A1.length = vs.length := by rw [hA1, setRange_length]
  have cy2 : aCopy 5 (Z (.sl i (k * 5) (n + 1 - k) (.known (c - k)))) (Z (.sl j p 1 (.known 1))) s1 = some (I .i64 ((1 : Nat) : Int), s2) := by
    have h1 : k * 5 + 1 * 5 ≤ A1.length := by omega
    have h2 : w.take (1 * 5) = w := List.take_of_length_le (by omega)
    simp only [aCopy, src2, g1, hm2]
    rw [if_pos h1, h2, hs2, hA2]
  have hfin : A2.take ((n + 1) * 5) = a ++ w ++ b := by
    have := ins_room a w b r (by omega)
    rw [← hvs, hla, hlw, hlb] at this
    have e1 : k * 5 + 5 = (k + 1) * 5 := by omega
    have e2 : (k + 1) * 5 + (n - k) * 5 = (n + 1) * 5 := by omega
    rw [e1, e2] at this
    rw [hA2, hA1]
    exact this
  refine ⟨s2, A2, ?_, by rw [hs2, hs1]; simp, by rw [hs2]; exact St.get_set_same _ _ _, by rw [hA2, setRange_length, hl1], by rw [hfin, ha, hw, hb], fun q hq => by rw [hs2, hs1, St.get_set_ne _ _ hq, St.get_set_ne _ _ hq]⟩
  unfold f74
  clear hi hj hj1 hv hp
  have br1 : ((1 : Nat) : Int) = 1 := rfl
  rw [br1] at cy2
  generalize ((n - k : Nat) : Int) = NK at *
  generalize ((n + 1 : Nat) : Int) = N1 at *
  generalize ((k + 1 : Nat) : Int) = K1 at *
  generalize ((c : Nat) : Int) = CI at *
  generalize ((n : Nat) : Int) = NI at *
  generalize ((k : Nat) : Int) = KI at *
  simp only [p0, le0, le2, bd_some, f1, br_false, f2, f3, cp, gt, p1, f4, p2, ov, bd2_some, no, br_true, p3, cy1, cy2]
end

theorem ins_sound : CallSound Tryz.prog (insP 74 5) := by
  have body : ∀ (a0 a1 a2 : T) (σ : St), runQ Tryz.prog 8 noPrim 1 74 [a0, a1, a2] σ = f74 (runQ Tryz.prog 8 noPrim 0) 8 a0 a1 a2 σ := fun a0 a1 a2 σ =>
    (runQ_body rfl Tryz.func74 (by kernel_rfl)).trans (f74_eq _ _ _ _ _ _)
  refine Go.Abs.F.ins_sound (plain_sound Tryz.prog 8 1) ?_ ?_
  · intro σ i n k j p vs us wf h1 h2 h3 h4 h5 h6 h7
    obtain ⟨τ, e1, e2⟩ := insN_run 0 wf h1 h2 h3 h4 h5 h6 h7
    exact ⟨τ, (body _ _ _ _).trans e1, e2⟩
  · intro σ i n k j p c vs us h1 h2 h3 h4 h5 h6 h7 h8
    obtain ⟨τ, B, e1, e2⟩ := insR_run 0 h1 h2 h3 h4 h5 h6 h7 h8
    exact ⟨τ, B, (body _ _ _ _).trans e1, e2⟩
end Go.Proofs.YtlhbidbdmdcdeaaGreatDoor

/-
  What our runs ask first is what the program does. No conditions.
-/
namespace Go.Proofs.YtlhbidbdmdcdeaaGreatDoor
open Go Go.Abs Go.Abs.F
set_option linter.unusedVariables false

theorem prim1_sound : CallSound Tryz.prog prim1 := by
  refine orP_sound (orP_sound (ixP_sound ?_ ?_) (joinP_sound ?_ ?_)) (pureP_sound (runQ_sound noPrim_sound 64 8) _)
  · intro f hf s c w
    have : f = 104 ∨ f = 105 := by simpa [ixs] using hf
    rcases this with rfl | rfl
    · exact Tryz.strings_Index_one s c w
    · exact Tryz.stringslite_Index_one s c w
  · exact fun s c w => Tryz.strings_Count_one s c w
  · exact fun a c sep w => Tryz.strings_Join_none a c sep w
  · exact fun bk o c xs sep w h1 h2 h3 h4 h5 => Tryz.strings_Join bk o c xs sep w h1 h2 h3 h4 h5

theorem prim3_sound : CallSound Tryz.prog prim3 := orP_sound (orP_sound (bigP_sound _ _) (orP_sound del_sound ins_sound)) prim1_sound
theorem prim_sound : CallSound Tryz.prog prim := orP_sound (toldP_sound (runQ_sound prim3_sound 64 16) told10_all) (orP_sound (toldP_sound (runQ_sound prim3_sound 64 16) told9_all) prim3_sound)
end Go.Proofs.YtlhbidbdmdcdeaaGreatDoor
