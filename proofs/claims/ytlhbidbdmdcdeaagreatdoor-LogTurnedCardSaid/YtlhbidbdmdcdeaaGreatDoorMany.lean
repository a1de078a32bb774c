/-
  LogMany: two thousand entries are put, not one more, and as many are read. No conditions but those named in each line.
-/
import Derived.Test.YtlhbidbdmdcdeaaGreatDoorMore
namespace Go.Proofs.YtlhbidbdmdcdeaaGreatDoor
open Go Go.Abs Go.Abs.F
set_option linter.unusedVariables false

def eM : Ent := { ent0 with k := 3, v := 1 }
theorem eM_may : mayE eM = true := by decide +kernel
theorem eM_wf : EWf eM := ⟨by decide, by decide⟩
theorem eM_len : (wrapB (putB eM)).length = 7 := by decide +kernel
theorem eM_two : (putB eM).length = 2 := by decide +kernel
theorem many_may (n : Nat) : (List.replicate n eM).all mayE = true := by
  rw [List.all_eq_true]
  intro x hx
  rw [(List.mem_replicate.1 hx).2]
  exact eM_may
theorem many_wf (n : Nat) : ∀ e ∈ List.replicate n eM, EWf e := fun x hx => by rw [(List.mem_replicate.1 hx).2]; exact eM_wf
theorem many_len : ∀ n, (framesB (List.replicate n eM)).length = 7 * n
  | 0 => rfl
  | n + 1 => by rw [List.replicate_succ, framesB, List.length_append, eM_len, many_len n]; omega
theorem many_cut (i n : Nat) : framesB (List.replicate (i + n) eM) = framesB (List.replicate i eM) ++ framesB (List.replicate n eM) := by
  rw [← framesB_append, List.replicate_append_replicate]

theorem many_open {k i : Nat} (h : i < k) : vget (framesB (List.replicate k eM)) (7 * i) = some (2, 7 * i + 1) ∧ openB (framesB (List.replicate k eM)) (7 * i) = some (putB eM, 7 * (i + 1)) := by
  have hb : framesB (List.replicate k eM) = framesB (List.replicate i eM) ++ (wrapB (putB eM) ++ framesB (List.replicate (k - i - 1) eM)) := by
    conv => lhs; rw [show k = i + ((k - i - 1) + 1) by omega, many_cut, List.replicate_succ, framesB]
  constructor
  · have := vget_vput (n := 2) (at_ := 7 * i) (pre := framesB (List.replicate i eM)) (post := four (sumB 1 (vput 2 ++ putB eM)) ++ putB eM ++ framesB (List.replicate (k - i - 1) eM)) (bs := framesB (List.replicate k eM))
      (by rw [hb, wrapB, eM_two]; simp) (many_len i).symm (by decide)
    rw [this]
    rfl
  · have := openB_wrap (at_ := 7 * i) hb (many_len i).symm (by rw [eM_two]; decide)
    rw [this, eM_len]
    rfl

theorem many_end {k : Nat} : vget (framesB (List.replicate k eM)) (7 * k) = none ∧ openB (framesB (List.replicate k eM)) (7 * k) = none := by
  have hl := many_len k
  refine ⟨?_, openB_end (by omega)⟩
  unfold vget
  rw [if_pos (by omega)]
  unfold getN
  rw [show (framesB (List.replicate k eM))[7 * k + 0]? = none from List.getElem?_eq_none (by omega)]

theorem many_read (k : Nat) : readP (framesB (List.replicate k eM)) = (List.replicate (min k 2000) eM, 7 * min k 2000) := by
  rw [readP_frames (l := List.replicate (min k 2000) eM) (post := framesB (List.replicate (k - min k 2000) eM)) (by rw [List.length_replicate]; omega) (many_may _) (many_wf _) (by rw [← many_cut]; congr 2; omega), many_len, List.length_replicate]
  by_cases h : k ≤ 2000
  · rw [Nat.min_eq_left h]
    exact readL_none many_end.2
  · rw [Nat.min_eq_right (by omega)]
    rfl

section
variable {s t : St} {x y : S} {l m : List Ent} {bs : Bs}

/-- Entries and bytes that grow side by side. -/
structure EB (s0 s : St) (o z : S) (l : List Ent) (bs : Bs) : Prop where
  out : FE s0 s o l
  byt : FB s0 s z bs
  ne : ∀ c, own o = some c → own z ≠ some c

theorem EB.lit {s0 : St} {o z : S} {e : Ent} (h : EB s0 s o z l bs) (hl : l.length ≤ 1000000) :
    ∃ x' t s', aNew s (nSlice 1 (aFill [.int .i64 0, .int .i64 0, .int .i64 0, .int .i64 0, .int .i64 0, .int .i64 0, .int .u32 0, .str []] [(0, 8, AE e)])) = some (Z (.sl s.size 0 1 (.known 1)), s') ∧ aAppend 8 72 (Z o) (Z (.sl s.size 0 1 (.known 1))) s' = some (Z x', t) ∧ EB s0 t x' z (l ++ [e]) bs := by
  obtain ⟨x', t, s', e1, e2, f, hz, hk, ho⟩ := FE.lit' (e := e) h.out hl
  refine ⟨x', t, s', e1, e2, f, Fr_other h.byt f.gr hz fun c hc => hk c (h.byt.new c hc).2 fun hh => h.ne c hh hc, fun c hc hy => ?_⟩
  rcases ho with h1 | h1 | ⟨c', h1, h2⟩
  · rw [h1] at hc; cases hc
  · rw [h1] at hc; exact h.ne c hc hy
  · rw [h1] at hc
    cases hc
    have := (h.byt.new c hy).2
    omega

theorem EB.app {s0 : St} {o z y : S} {cs : Bs} (h : EB s0 s o z l bs) (hy : RB s y cs) (hl : bs.length + cs.length ≤ 1000000) :
    ∃ z' t, aAppend 1 1 (Z z) (Z y) s = some (Z z', t) ∧ EB s0 t o z' l (bs ++ cs) := by
  obtain ⟨z', t, e1, f, hzz, hk, ho⟩ := FB.app' h.byt hy hl
  refine ⟨z', t, e1, Fr_other h.out f.gr hzz fun c hc => hk c (h.out.new c hc).2 fun hh => h.ne c hc hh, f, fun c hc hy' => ?_⟩
  rcases ho with h1 | h1 | ⟨c', h1, h2⟩
  · rw [h1] at hy'; cases hy'
  · rw [h1] at hy'; exact h.ne c hc hy'
  · rw [h1] at hy'
    cases hy'
    have := (h.out.new c hc).2
    omega

theorem many_run (d : Nat) (wf : s.wf) {n : Int} : ∃ t, R (d + 12) 3 [I .i64 n] s = some (B true, t) := by
  rw [f3_run]
  unfold f3
  have tl5 := fun st => told10_run (d + 10) st
  obtain ⟨y, hy, _, c1, _, r1, c3⟩ := mod_run n (n := 7) (by decide) (by decide)
  have r1' : aBin .rem (I .u64 (rowK n : Nat)) (I .u64 7) = some (I .u64 (y : Nat)) := r1
  obtain ⟨k, hk⟩ : ∃ k, k = 1997 + y := ⟨_, rfl⟩
  have w1 : IntKind.i64.wrap (1997 + (y : Int)) = ((k : Nat) : Int) := by rw [wrap_in _ (by omega) (by omega)]; omega
  have ag : asAggT (aFill [.int .i64 0, .int .i64 0, .int .i64 0, .int .i64 0, .int .i64 0, .int .i64 0, .int .u32 0, .str []] [(0, 1, (I .i64 3)), (1, 1, (I .i64 1))]) = some (AE eM) := rfl
  obtain ⟨s1, hs1⟩ : ∃ s1, s1 = s.push (.cells true (cE ent0)) := ⟨_, rfl⟩
  have nw : aNew s (nCells [.int .i64 0, .int .i64 0, .int .i64 0, .int .i64 0, .int .i64 0, .int .i64 0, .int .u32 0, .str []]) = some (Z (.ptr s.size 0), s1) := by rw [hs1]; rfl
  have b1 : s1.get s.size = some (.cells true (cE ent0)) := by rw [hs1]; exact St.get_push_same _ _
  have g1 : Gr s s1 := by rw [hs1]; exact Gr.push wf _
  obtain ⟨s2, hs2⟩ : ∃ s2, s2 = s1.set s.size (.cells true (cE eM)) := ⟨_, rfl⟩
  have st2 : aStore 8 (Z (.ptr s.size 0)) (AE eM) s1 = some (tt, s2) := by rw [hs2]; exact store8 b1 rfl
  have b2 : s2.get s.size = some (.cells true (cE eM)) := by rw [hs2]; exact St.get_set_same _ _ _
  have wf2 : s2.wf := by rw [hs2]; exact St.wf_set g1.wf (by rw [hs1]; simp) _
  have z2 : s.size < s2.size := by rw [hs2, hs1]; simp
  have ld2 := load8 b2
  obtain ⟨f, s3, e3, g3, F3⟩ := frame_run (d + 1) wf2 eM eM_wf
  have hf : frameE eM = some (wrapB (putB eM)) := by simp [frameE, eM_may]
  rw [hf] at e3
  have F3 := F3 _ hf
  simp only [resF] at e3
  have b3 : s3.get s.size = some (.cells true (cE eM)) := by rw [g3.2.2 _ z2]; exact b2
  have z3 : s.size < s3.size := Nat.lt_of_lt_of_le z2 g3.2.1
  have lf : aLenSl (Z f) = some (I .i64 7) := by
    have := F3.rd.lens
    rw [eM_len] at this
    exact this
  simp only [Nat.add_assoc, Nat.reduceAdd] at e3 tl5
  obtain ⟨j, τ, lp, o, z, hj, E⟩ := loops_inv (f := f3_l1 (R (d + 11)) 8192) (fun q v u => ∃ (i : Nat) (o z : S), q + i = k ∧ v = [I .i64 (k : Nat), Z (.ptr s.size 0), Z o, Z z, Z f, I .i64 0, I .i64 (i : Nat)] ∧ EB s3 u o z (List.replicate i eM) (framesB (List.replicate i eM)))
    (fun j u => ∃ o z, j = .exit 0 [I .i64 (k : Nat), Z o, Z z, Z f, I .i64 0] ∧ EB s3 u o z (List.replicate k eM) (framesB (List.replicate k eM))) (by
    rintro q v u ⟨i, o, z, hq, rfl, E⟩
    by_cases hi : i < k
    · left
      have c0 : ((i : Nat) : Int) < ((k : Nat) : Int) := by omega
      have w2 : IntKind.i64.wrap ((i : Int) + 1) = ((i + 1 : Nat) : Int) := by rw [wrap_in _ (by omega) (by omega)]; omega
      have bu : u.get s.size = some (.cells true (cE eM)) := by rw [E.out.gr.2.2 _ z3]; exact b3
      have ld := load8 bu
      obtain ⟨o', u2, u1, n1, p1, E1⟩ := EB.lit (e := eM) E (by rw [List.length_replicate]; omega)
      obtain ⟨z', u3, p2, E2⟩ := EB.app E1 (Rd.gr F3.rd (fun c hc => (F3.new c hc).2) E1.out.gr) (by rw [many_len, eM_len]; omega)
      have hr : List.replicate i eM ++ [eM] = List.replicate (i + 1) eM := by rw [List.replicate_succ']
      have hb : framesB (List.replicate i eM) ++ wrapB (putB eM) = framesB (List.replicate (i + 1) eM) := by rw [← hr, framesB_snoc]
      rw [hr, hb] at E2
      refine ⟨[I .i64 (k : Nat), Z (.ptr s.size 0), Z o', Z z', Z f, I .i64 0, I .i64 ((i + 1 : Nat) : Int)], u3, q - 1, ?_, by omega, i + 1, o', z', by omega, rfl, E2⟩
      unfold f3_l1
      generalize ((i + 1 : Nat) : Int) = I1 at *
      generalize ((i : Nat) : Int) = II at *
      generalize ((k : Nat) : Int) = K at *
      simp [c0, ld, n1, p1, p2, w2]
    · right
      obtain rfl : i = k := by omega
      refine ⟨.exit 0 [I .i64 (i : Nat), Z o, Z z, Z f, I .i64 0], u, ?_, (fun v hv => by cases hv), o, z, rfl, E⟩
      unfold f3_l1
      simp) 8192 k [I .i64 (k : Nat), Z (.ptr s.size 0), Z .nils, Z .nils, Z f, I .i64 0, I .i64 0] s3 ⟨0, .nils, .nils, rfl, rfl, Fr.nil 8 F3.gr.wf, Fr.nil 1 F3.gr.wf, fun c hc => by cases hc⟩ (by omega)
  subst hj
  obtain ⟨x, s4, e4, f4⟩ := all_run d E.out.gr.wf E.out.rd (fun c hc => (E.out.new c hc).2) (many_wf k) (by rw [List.length_replicate]; omega)
  have rz : RB s4 z (framesB (List.replicate k eM)) := Rd.gr E.byt.rd (fun c hc => (E.byt.new c hc).2) f4.gr
  obtain ⟨m, s5, e5, f5⟩ := read_run d f4.gr.wf rz (fun c hc => Nat.lt_of_lt_of_le (E.byt.new c hc).2 f4.gr.2.1) (by rw [many_len]; omega) (fun a => ∃ i, i ≤ k ∧ a = 7 * i) ⟨0, by omega, rfl⟩
    (fun a p e ⟨i, hi, ha⟩ ho => by
      subst ha
      by_cases h : i < k
      · rw [(many_open h).2] at ho
        cases ho
        exact ⟨i + 1, h, rfl⟩
      · obtain rfl : i = k := by omega
        rw [many_end.2] at ho
        cases ho)
    (fun a n to ⟨i, hi, ha⟩ ho => by
      subst ha
      by_cases h : i < k
      · rw [(many_open h).1] at ho
        cases ho
        exact .inr (by decide)
      · obtain rfl : i = k := by omega
        rw [many_end.1] at ho
        cases ho)
  rw [many_read] at e5 f5
  simp only [resR] at e5
  have lm : aLenSl (Z m) = some (I .i64 ((min k 2000 : Nat) : Int)) := by
    have := f5.rd.lens
    rw [List.length_replicate] at this
    exact this
  have mn : aFold aMin2 (I .i64 (k : Nat)) [I .i64 2000] = some (I .i64 ((min k 2000 : Nat) : Int)) := by
    have h : min ((k : Nat) : Int) 2000 = ((min k 2000 : Nat) : Int) := by omega
    rw [aFold_min, h]
  have ml : aBin .mul (I .i64 ((min k 2000 : Nat) : Int)) (I .i64 7) = some (I .i64 ((7 * min k 2000 : Nat) : Int)) := by
    have h : ((min k 2000 : Nat) : Int) * 7 = ((7 * min k 2000 : Nat) : Int) := by omega
    rw [mul_int, h, wrap_in _ (by omega) (by omega)]
  have sb : aBytesStr (Z z) s5.get = some (Z (.str (framesB (List.replicate k eM)))) := RB.str (rz.gr (fun c hc => Nat.lt_of_lt_of_le (E.byt.new c hc).2 f4.gr.2.1) f5.gr)
  have all1 := many_may k
  refine ⟨s5, ?_⟩
  by_cases hk2 : k ≤ 2000
  · have ha : allP (List.replicate k eM) = (framesB (List.replicate k eM), 0) := allP_may all1 (by rw [List.length_replicate]; exact hk2)
    rw [ha] at e4 f4
    simp only [resA] at e4
    have sx : aBytesStr (Z x) s5.get = some (Z (.str (framesB (List.replicate k eM)))) := RB.str (Rd.gr f4.rd (fun c hc => (f4.new c hc).2) f5.gr)
    have c5 : ((k : Nat) : Int) ≤ 2000 := by omega
    generalize ((7 * min k 2000 : Nat) : Int) = M7 at *
    generalize ((min k 2000 : Nat) : Int) = MK at *
    generalize ((k : Nat) : Int) = K at *
    generalize ((y : Nat) : Int) = YY at *
    generalize ((rowK n : Nat) : Int) = RK at *
    generalize R (d + 11) = r at *
    simp [c1, r1', c3, w1, ag, nw, st2, ld2, e3, aExtract, lp, e4, e5, mn, lm, lf, ml, tl5, c5, sx, sb, gtt]
  · have ha : allP (List.replicate k eM) = ([], 8) := by unfold allP; rw [if_pos all1, if_neg (by rw [List.length_replicate]; exact hk2)]
    rw [ha] at e4 f4
    simp only [resA] at e4
    have lx : aLenSl (Z x) = some (I .i64 0) := (f4.rd : RB s4 x []).lens
    have c5 : ¬ ((k : Nat) : Int) ≤ 2000 := by omega
    generalize ((7 * min k 2000 : Nat) : Int) = M7 at *
    generalize ((min k 2000 : Nat) : Int) = MK at *
    generalize ((k : Nat) : Int) = K at *
    generalize ((y : Nat) : Int) = YY at *
    generalize ((rowK n : Nat) : Int) = RK at *
    generalize R (d + 11) = r at *
    simp [c1, r1', c3, w1, ag, nw, st2, ld2, e3, aExtract, lp, e4, e5, mn, lm, lf, ml, tl5, c5, lx, gtt]
end
end Go.Proofs.YtlhbidbdmdcdeaaGreatDoor
