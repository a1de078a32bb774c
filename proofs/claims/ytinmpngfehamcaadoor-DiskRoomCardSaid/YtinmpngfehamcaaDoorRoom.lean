/-
  DiskRoom returns true, whatever the room and the bytes. No conditions.
-/
import Derived.Test.YtinmpngfehamcaaDoorFiles
namespace Go.Proofs.YtinmpngfehamcaaDoor
open Go Go.Abs Go.Abs.F
set_option linter.unusedVariables false

set_option maxRecDepth 100000 in
theorem may_g : May [103] := fun s => (orP_right rfl).trans ((orP_right rfl).trans (pureP_val rfl (by kernel_rfl) rfl))
set_option maxRecDepth 100000 in
theorem may_h : May [104] := fun s => (orP_right rfl).trans ((orP_right rfl).trans (pureP_val rfl (by kernel_rfl) rfl))

theorem remove_run (d : Nat) {s : St} {i m : Nat} {room : Int} {f g : Fl} (h : Dk s i m room [f, g]) (hf : May f.nm) :
    ∃ t, R (d + 3) 16 [Z (.ptr i 0), Z (.str f.nm)] s = some (I .i64 0, t) ∧ Dk t i m room [g] ∧ s.size ≤ t.size := by
  have e1 := find_run d h (k := 0) (f := f) rfl hf
  have l1 := h.ld1
  have hmi : m ≠ i := fun e => by
    have h1 := h.mp
    rw [e, h.ri] at h1
    cases h1
  have hml := h.wf.lt h.mp
  obtain ⟨s1, hs1⟩ : ∃ s1, s1 = s.set m (.map [(S.str g.nm, V.s (.ptr g.fb 0))]) := ⟨_, rfl⟩
  have dl : mdel .s (Z (.map m)) (Z (.str f.nm)) s = some (tt, s1) := by
    have hfi := find_at [f, g] 0 0 f h.nm rfl
    simp [mdel, isKey, aDelete, h.mp, hfi, hs1]
    rfl
  have hF : ∀ b, b ≠ m → s1.get b = s.get b := fun b hb => by rw [hs1, St.get_set_ne _ _ hb]
  rw [f16_run]
  unfold f16
  refine ⟨s1, ?_, ⟨by rw [hs1]; exact St.wf_set h.wf hml _, by rw [hF i (Ne.symm hmi)]; exact h.ri, by rw [hs1, St.get_set_same]; rfl, fun k q hq => ?_, fun k k' q q' hq hq' => ?_, by simp⟩, by rw [hs1]; exact Nat.le_refl _⟩
  · generalize R (d + 2) = r at e1 ⊢
    simp [e1, aExtract, l1, dl]
  · cases k with
    | zero =>
      simp at hq
      subst hq
      obtain ⟨a1, a2, a3, a4, a5, a6, a7⟩ := h.fl 1 g rfl
      exact ⟨by rw [hF _ a6]; exact a1, a2.keep fun c hc => hF c (a7 c hc).2, a3, a4, a5, a6, a7⟩
    | succ k => simp at hq
  · cases k with
    | zero => cases k' with
      | zero =>
        simp at hq hq'
        subst hq; subst hq'
        exact ⟨fun e => absurd rfl e, fun c hc => ⟨((h.ap 1 1 g g rfl rfl).2 c hc).1, fun e => absurd rfl e⟩⟩
      | succ k' => simp at hq'
    | succ k => simp at hq

theorem remove_none (d : Nat) {s : St} {i m : Nat} {room : Int} {fs : List Fl} (h : Dk s i m room fs) {nm : List UInt8} (hno : ∀ g ∈ fs, g.nm ≠ nm) (hf : May nm) : R (d + 3) 16 [Z (.ptr i 0), Z (.str nm)] s = some (I .i64 9, s) := by
  have e1 := find_none d h hno hf
  rw [f16_run]
  unfold f16
  generalize R (d + 2) = r at e1 ⊢
  simp [e1, aExtract]

/-- New bytes, all nought. -/
theorem make_run {s : St} (wf : s.wf) (n : Nat) (hn : n ≤ 1000) : ∃ t, aNew s (nMake 1 1 [.int .u8 0] (I .i64 n) (I .i64 n)) = some (Z (.sl s.size 0 n (.known n)), t) ∧ Gr s t ∧ s.size < t.size ∧ Rd t (.sl s.size 0 n (.known n)) (zeros n [.int .u8 0]) ∧ (zeros n [S.int .u8 0]).length = n := by
  have hl : (zeros n [S.int .u8 0]).length = n := by simp [zeros]
  refine ⟨s.push (.cells true (zeros n [.int .u8 0])), ?_, Gr.push wf _, by simp, ?_, hl⟩
  · have h1 : (n : Int) ≤ 4611686018427387904 := by omega
    have h2 : (n : Int) ≤ 281474976710656 := by omega
    simp [aNew, nMake, h1, h2]
  · have : Rd (s.push (.cells true (zeros n [.int .u8 0]))) (.sl s.size 0 (zeros n [S.int .u8 0]).length (.known n)) (zeros n [.int .u8 0]) := .inr ⟨s.size, 0, _, true, _, rfl, St.get_push_same _ _, by omega, by simp⟩
    rwa [hl] at this

section
variable {s0 : St} {b : S} {lb : List S} {i m : Nat} {n : Nat}

/-- After k appends. -/
def Full (s0 : St) (b : S) (lb : List S) (i m n : Nat) (k : Nat) (s : St) : Prop :=
  Arg s b lb ∧ k * lb.length ≤ n ∧ ((k = 0 ∧ Dk s i m n []) ∨ (0 < k ∧ ∃ f : Fl, f.nm = [102] ∧ f.l.length = k * lb.length ∧ Dk s i m n [f] ∧ s0.size ≤ f.fb ∧ (∀ c, own f.x = some c → s0.size ≤ c))) ∧ s0.size ≤ s.size ∧ (∀ c, own b = some c → c < s0.size) ∧ s0.size ≤ m

theorem full_step (r : CallF) (hr : r = R 5) (hl1 : 1 ≤ lb.length) (hl2 : lb.length ≤ 60) (hn : n ≤ 300) (q : Nat) (v : List T) (s : St)
    (h : ∃ k : Nat, q + k = 300 ∧ v = [Z b, I .i64 n, Z (.ptr i 0), I .i64 k] ∧ Full s0 b lb i m n k s) :
    (∃ v' s' q', f6_l1 r 512 v s = some (.normal v', s') ∧ q = q' + 1 ∧ ∃ k : Nat, q' + k = 300 ∧ v' = [Z b, I .i64 n, Z (.ptr i 0), I .i64 k] ∧ Full s0 b lb i m n k s') ∨
    ∃ j s', f6_l1 r 512 v s = some (j, s') ∧ (∀ v, j ≠ .normal v) ∧ ∃ k : Nat, j = .exit 0 [Z b, I .i64 n, Z (.ptr i 0), I .i64 k] ∧ Full s0 b lb i m n k s' ∧ n < (k + 1) * lb.length := by
  obtain ⟨k, hq, rfl, ha, hk, hd, hz, hb, hm⟩ := h
  have hkl : k ≤ k * lb.length := Nat.le_mul_of_pos_right k (by omega)
  have hsucc : (k + 1) * lb.length = k * lb.length + lb.length := by rw [Nat.add_mul, Nat.one_mul]
  by_cases hfit : (k + 1) * lb.length ≤ n
  · left
    have hk1 : k + 1 ≤ (k + 1) * lb.length := Nat.le_mul_of_pos_right (k + 1) (by omega)
    have w1 : IntKind.i64.wrap ((k : Int) + 1) = (k : Int) + 1 := wrap_in _ (by omega) (by omega)
    have c1 : ¬ (400 : Int) < (k : Int) + 1 := by omega
    have key : ∃ t, R 5 9 [Z (.ptr i 0), Z (.str [102]), Z b] s = some (I .i64 0, t) ∧ Full s0 b lb i m n (k + 1) t := by
      rcases hd with ⟨rfl, hd⟩ | ⟨hpos, f, hnm, hfl, hd, hfb, hfx⟩
      · obtain ⟨x, fb, t, e, h', z, kf, hfb, hx⟩ := append_new 2 hd ⟨by simp, by simp⟩ (nm := [102]) (by simp) may_f ha.rd ha.lt (fun e => by
          have := hb _ e
          omega) (by simp [tot]; omega) (by omega)
        refine ⟨t, e, ?_, hfit, .inr ⟨by omega, ⟨[102], fb, x, lb, 0⟩, rfl, by simp, by simpa using h', by show s0.size ≤ fb; omega, fun c hc => by have := hx c hc; omega⟩, by omega, hb, hm⟩
        refine ⟨?_, ha.bytes⟩
        rcases ha.form with h | ⟨c, cap, a1, rfl, a2, a3⟩
        · exact .inl h
        · have := hb c rfl
          exact .inr ⟨c, cap, a1, rfl, by omega, by rw [kf c (by omega) (by omega)]; exact a3⟩
      · obtain ⟨nm, fb, x0, l0, sure⟩ := f
        subst hnm
        obtain ⟨x, t, e, h', z, kf, ox⟩ := append_run 2 hd ⟨by simp, by simp⟩ (k := 0) rfl may_f ha.rd ha.lt (by simp [tot, hfl]; simp at hfl; omega) (by omega) (by show l0.length + lb.length ≤ 50000; simp at hfl; omega)
        simp only [List.set_cons_zero] at h'
        refine ⟨t, e, ?_, hfit, .inr ⟨by omega, _, rfl, ?_, h', hfb, fun c hc => ?_⟩, by omega, hb, hm⟩
        · refine ⟨?_, ha.bytes⟩
          rcases ha.form with h | ⟨c, cap, a1, rfl, a2, a3⟩
          · exact .inl h
          · have := hb c rfl
            simp only at hfb hfx
            exact .inr ⟨c, cap, a1, rfl, by omega, by rw [kf c (by omega) (by show c ≠ fb; omega) (fun e => by have := hfx c e; omega)]; exact a3⟩
        · show (l0 ++ lb).length = (k + 1) * lb.length
          simp at hfl
          rw [List.length_append]
          omega
        · rcases ox with e | e | ⟨c', e, hc'⟩
          · rw [e] at hc; cases hc
          · rw [e] at hc; exact hfx c hc
          · rw [e] at hc; cases hc; omega
    obtain ⟨t, e, hF⟩ := key
    refine ⟨[Z b, I .i64 n, Z (.ptr i 0), I .i64 ((k : Int) + 1)], t, q - 1, ?_, by omega, k + 1, by omega, by simp, hF⟩
    rw [← hr] at e
    unfold f6_l1
    simp [e, w1, c1]
  · right
    have key : ∃ t, R 5 9 [Z (.ptr i 0), Z (.str [102]), Z b] s = some (I .i64 8, t) ∧ Gr s t := by
      rcases hd with ⟨rfl, hd⟩ | ⟨hpos, f, hnm, hfl, hd, hfb, hfx⟩
      · exact append_full 2 hd ⟨by simp, by simp⟩ may_f ha.rd ha.lt (by omega) (by simp [tot]; omega) (.inr (by simp))
      · have hroom : (n : Int) < (tot [f] : Nat) + lb.length := by simp [tot, hfl]; omega
        exact append_full 2 hd ⟨by simp [hnm], by simp⟩ may_f ha.rd ha.lt (by omega) hroom (.inl ⟨0, f, rfl, hnm⟩)
    obtain ⟨t, e, g⟩ := key
    refine ⟨_, t, ?_, (fun v hv => by cases hv), k, rfl, ⟨ha.gr g.2.2 g.2.1, hk, ?_, by have := g.2.1; omega, hb, hm⟩, by omega⟩
    · rw [← hr] at e
      unfold f6_l1
      simp [e]
    · rcases hd with ⟨rfl, hd⟩ | ⟨hpos, f, hnm, hfl, hd, hfb, hfx⟩
      · exact .inl ⟨rfl, hd.gr g⟩
      · exact .inr ⟨hpos, f, hnm, hfl, hd.gr g, hfb, hfx⟩
end

theorem room_run (s0 : St) (wf : s0.wf) {b : S} {lb : List S} (hb : Arg s0 b lb) (room : Int) : ∃ τ, R 6 6 [I .i64 room, Z b] s0 = some (B true, τ) := by
  rw [f6_run]
  unfold f6
  obtain ⟨X, hX0, hX1, hX, hX', _⟩ := mod_u room 301 (by omega) (by omega)
  obtain ⟨n, hn, rfl⟩ := nat_of (n := 301) hX0 (by omega)
  obtain ⟨s1, e1, h1, g1⟩ := new_run (room := n) 4 wf (by omega) (by omega)
  have z01 := g1.2.1
  have him : s0.size ≤ s0.size := Nat.le_refl _
  generalize s0.size + 1 = i at e1 h1
  have llb := hb.rd.len
  by_cases hlong : lb.length < 1 ∨ 60 < lb.length
  · have e6 := told_run 4 s1
    simp only [Nat.reduceAdd] at e1 e6
    generalize R 5 = r at e1 e6 ⊢
    refine ⟨s1, ?_⟩
    by_cases hl0 : (lb.length : Int) < 1
    · simp [hX, hX', e1, llb, hl0, e6]
    · have hl1 : (60 : Int) < lb.length := by omega
      simp [hX, hX', e1, llb, hl0, hl1, e6]
  · have c0 : ¬ (lb.length : Int) < 1 := by omega
    have c1 : ¬ (60 : Int) < lb.length := by omega
    have hb1 : Arg s1 b lb := hb.gr g1.2.2 g1.2.1
    have hF0 : Full s0 b lb i s0.size n 0 s1 := ⟨hb1, by omega, .inl ⟨rfl, h1⟩, z01, hb.lt, him⟩
    obtain ⟨j, s2, lp, k, rfl, ⟨hb2, hkn, hd, hz2, hbo, _⟩, hkn2⟩ := loops_inv (f := f6_l1 (R 5) 512) (fun q v s => ∃ k : Nat, q + k = 300 ∧ v = [Z b, I .i64 n, Z (.ptr i 0), I .i64 k] ∧ Full s0 b lb i s0.size n k s) (fun j s => ∃ k : Nat, j = .exit 0 [Z b, I .i64 n, Z (.ptr i 0), I .i64 k] ∧ Full s0 b lb i s0.size n k s ∧ n < (k + 1) * lb.length)
      (full_step (R 5) rfl (by omega) (by omega) (by omega)) 512 300 [Z b, I .i64 n, Z (.ptr i 0), I .i64 0] s1 ⟨0, by omega, by simp, hF0⟩ (by omega)
    have hsucc : (k + 1) * lb.length = k * lb.length + lb.length := by rw [Nat.add_mul, Nat.one_mul]
    obtain ⟨p, hp⟩ : ∃ p, p = k * lb.length := ⟨_, rfl⟩
    rw [← hp] at hsucc hkn
    have hkl : k ≤ p := by rw [hp]; exact Nat.le_mul_of_pos_right k (by omega)
    have wm : IntKind.i64.wrap ((k : Int) * (lb.length : Int)) = (p : Int) := by
      have : (k : Int) * (lb.length : Int) = (p : Int) := by rw [hp]; simp
      rw [this, wrap_in _ (by omega) (by omega)]
    have wr : IntKind.i64.wrap ((n : Int) - p) = ((n - p : Nat) : Int) := by rw [wrap_in _ (by omega) (by omega)]; omega
    have hdiv : IntKind.i64.wrap ((n : Int).tdiv (lb.length : Int)) = (k : Int) := by
      have h1 : n / lb.length = k := by
        apply Nat.div_eq_of_lt_le
        · rw [← hp]; exact hkn
        · rw [hsucc]; omega
      have h2 : (n : Int).tdiv (lb.length : Int) = ((n / lb.length : Nat) : Int) := rfl
      rw [h2, h1, wrap_in _ (by omega) (by omega)]
    have hquo : aBin .quo (I .i64 n) (I .i64 lb.length) = some (I .i64 k) := by rw [quo_int _ _ _ (by omega), hdiv]
    have hDk : ∃ fs : List Fl, Dk s2 i s0.size n fs ∧ tot fs = p ∧ ((k = 0 ∧ fs = []) ∨ (0 < k ∧ ∃ f : Fl, f.nm = [102] ∧ fs = [f])) := by
      rcases hd with ⟨rfl, hd⟩ | ⟨hpos, f, hnm, hfl, hd, _⟩
      · exact ⟨[], hd, by simp [tot, hp], .inl ⟨rfl, rfl⟩⟩
      · exact ⟨[f], hd, by simp [tot, hfl, hp], .inr ⟨hpos, f, hnm, rfl⟩⟩
    obtain ⟨fs, h2, htot, hfs⟩ := hDk
    have hnice : Nice fs := by
      rcases hfs with ⟨_, rfl⟩ | ⟨_, f, hnm, rfl⟩
      · exact ⟨by simp, by simp⟩
      · exact ⟨by simp [hnm], by simp⟩
    have hng : ∀ q ∈ fs, q.nm ≠ [103] := by
      rcases hfs with ⟨_, rfl⟩ | ⟨_, f, hnm, rfl⟩
      · simp
      · simp [hnm]
    have hnh : ∀ q ∈ fs, q.nm ≠ [104] := by
      rcases hfs with ⟨_, rfl⟩ | ⟨_, f, hnm, rfl⟩
      · simp
      · simp [hnm]
    -- the rest goes to g
    obtain ⟨s3, e3, g3, z3, r3, l3⟩ := make_run h2.wf (n - p) (by omega)
    have h3 := h2.gr g3
    have hml := h2.wf.lt h2.mp
    obtain ⟨xg, fbg, s4, e4, h4, z4, k4, _, _⟩ := append_new 2 h3 hnice hng may_g r3 (fun c hc => by cases hc; exact z3) (fun e => by simp [own] at e; omega) (by rw [htot, l3]; omega) (by omega)
    have htot4 : tot (fs ++ [⟨[103], fbg, xg, zeros (n - p) [.int .u8 0], 0⟩]) = n := by simp [tot] at htot ⊢; simp [l3]; omega
    -- no room for h
    obtain ⟨s5, hs5⟩ : ∃ s5, s5 = s4.push (.cells true [.int .u8 1]) := ⟨_, rfl⟩
    have g5 : Gr s4 s5 := by rw [hs5]; exact Gr.push h4.wf _
    have nw5 : aNew s4 (nSlice 1 (aFill [.int .u8 0] [(0, 1, I .u8 1)])) = some (Z (.sl s4.size 0 1 (.known 1)), s5) := by simp [aNew, nSlice, aFill, V.cells, setRange, hs5]
    have r5 : Rd s5 (.sl s4.size 0 1 (.known 1)) [.int .u8 1] := .inr ⟨s4.size, 0, _, true, [.int .u8 1], rfl, by rw [hs5]; exact St.get_push_same _ _, by simp, by simp⟩
    have h5 := h4.gr g5
    have hnice4 : Nice (fs ++ [⟨[103], fbg, xg, zeros (n - p) [.int .u8 0], 0⟩]) := by
      rcases hfs with ⟨_, rfl⟩ | ⟨_, f, hnm, rfl⟩
      · exact ⟨by simp, by simp⟩
      · exact ⟨by simp [hnm], by simp⟩
    have hnh4 : ∀ q ∈ fs ++ [(⟨[103], fbg, xg, zeros (n - p) [.int .u8 0], 0⟩ : Fl)], q.nm ≠ [104] := by
      intro q hq
      rcases List.mem_append.1 hq with hq | hq
      · exact hnh q hq
      · simp at hq
        rw [hq]
        simp
    obtain ⟨s6, e6, g6⟩ := append_full 2 h5 hnice4 may_h r5 (fun c hc => by cases hc; rw [hs5]; simp) (by simp) (by rw [htot4, List.length_singleton]; omega) (.inr hnh4)
    have h6 := h5.gr g6
    -- f is removed
    have key : ∃ e s7, R 5 16 [Z (.ptr i 0), Z (.str [102])] s6 = some (I .i64 e, s7) ∧ (decide (e = 0) = decide (0 < (k : Int))) ∧ Dk s7 i s0.size n [⟨[103], fbg, xg, zeros (n - p) [.int .u8 0], 0⟩] ∧ s6.size ≤ s7.size := by
      rcases hfs with ⟨rfl, rfl⟩ | ⟨hpos, f, hnm, rfl⟩
      · rw [List.nil_append] at h6
        exact ⟨9, s6, remove_none 2 h6 (by simp) may_f, by simp, h6, Nat.le_refl _⟩
      · rw [List.singleton_append] at h6
        obtain ⟨t, e, h', hz⟩ := remove_run 2 h6 (by rw [hnm]; exact may_f)
        rw [hnm] at e
        exact ⟨0, t, e, by simp; omega, h', hz⟩
    obtain ⟨e7v, s7, e7, d7, h7, z7⟩ := key
    -- h takes its room
    obtain ⟨s8, e8, g8, z8, r8, l8⟩ := make_run h7.wf p (by omega)
    have h8 := h7.gr g8
    have hml7 := h7.wf.lt h7.mp
    obtain ⟨xh, fbh, s9, e9, h9, z9, k9, _, _⟩ := append_new 2 h8 ⟨by simp, by simp⟩ (nm := [104]) (by simp) may_h r8 (fun c hc => by cases hc; exact z8) (fun e => by simp [own] at e; omega) (by rw [l8]; simp [tot, l3]; omega) (by omega)
    rw [List.singleton_append] at h9
    have e10 := told_run 4 s9
    obtain ⟨s11, e11, _⟩ := used_run 3 h9 (by simp) (by simp)
    have htot9 : tot [⟨[103], fbg, xg, zeros (n - p) [.int .u8 0], 0⟩, ⟨[104], fbh, xh, zeros p [.int .u8 0], 0⟩] = n := by simp [tot, l3, l8]; omega
    rw [htot9] at e11
    simp only [Nat.reduceAdd] at e1 e4 e6 e9 e10 e11
    generalize R 5 = r at e1 lp e4 e6 e7 e9 e10 e11 ⊢
    refine ⟨s11, ?_⟩
    simp [hX, hX', e1, llb, c0, c1, lp, wm, wr, e3, e4, nw5, e6, e7, e8, e9, e10, hquo, d7, e11]
end Go.Proofs.YtinmpngfehamcaaDoor
