/-
  DiskNames returns true, whatever the bytes. No conditions.
-/
import Derived.Test.YtinmpngfehamcaaDoorFiles
namespace Go.Proofs.YtinmpngfehamcaaDoor
open Go Go.Abs Go.Abs.F
set_option linter.unusedVariables false

set_option maxRecDepth 100000 in
theorem may_x : May [120] := fun s => (orP_right rfl).trans ((orP_right rfl).trans (pureP_val rfl (by kernel_rfl) rfl))
set_option maxRecDepth 100000 in
theorem may_y : May [121] := fun s => (orP_right rfl).trans ((orP_right rfl).trans (pureP_val rfl (by kernel_rfl) rfl))

/-- One of two files takes the other's name. -/
theorem rename_run (d : Nat) {s : St} {i m : Nat} {room : Int} {f g : Fl} (h : Dk s i m room [f, g]) (hf : May f.nm) (hg : May g.nm) :
    ∃ t, R (d + 3) 14 [Z (.ptr i 0), Z (.str f.nm), Z (.str g.nm)] s = some (I .i64 0, t) ∧ Dk t i m room [{ f with nm := g.nm }] ∧ s.size ≤ t.size ∧ ∀ b, b ≠ m → t.get b = s.get b := by
  have hne : f.nm ≠ g.nm := by
    have := h.nm
    simp at this
    exact this
  have e1 := find_run d h (k := 0) (f := f) rfl hf
  have e2 : R (d + 2) 20 [Z (.str g.nm)] s = some (B true, s) := runQ_prim (P := Tryd.prog) (N := 512) (d := d + 1) (hg s)
  have l1 := h.ld1
  have hmi : m ≠ i := fun e => by
    have h1 := h.mp
    rw [e, h.ri] at h1
    cases h1
  have hml := h.wf.lt h.mp
  obtain ⟨s1, hs1⟩ : ∃ s1, s1 = s.set m (.map [(S.str g.nm, V.s (.ptr g.fb 0))]) := ⟨_, rfl⟩
  have dl : mdel .s (Z (.map m)) (Z (.str f.nm)) s = some (tt, s1) := by
    have hfi := find_at [f, g] 0 0 f h.nm rfl
    simp [mdel, isKey, aDelete, h.mp, hfi, hs1]
    rfl
  have g1i : s1.get i = some (.cells true [.int .i64 room, .map m]) := by rw [hs1, St.get_set_ne _ _ (Ne.symm hmi)]; exact h.ri
  have l2 : aLoad1 (Z (.ptr i 1)) s1.get = some (Z (.map m)) := aLoad1_of g1i rfl
  have g1m : s1.get m = some (.map [(S.str g.nm, V.s (.ptr g.fb 0))]) := by rw [hs1, St.get_set_same]
  obtain ⟨s2, hs2⟩ : ∃ s2, s2 = s1.set m (.map [(S.str g.nm, V.s (.ptr f.fb 0))]) := ⟨_, rfl⟩
  have ms : mset .s (Z (.map m)) (Z (.str g.nm)) (Z (.ptr f.fb 0)) s1 = some (tt, s2) := by
    simp [mset, isKey, aMapSet, g1m, aFind, keyEq, hs2]
  have hF : ∀ b, b ≠ m → s2.get b = s.get b := fun b hb => by rw [hs2, hs1, St.get_set_ne _ _ hb, St.get_set_ne _ _ hb]
  have neq : aBin .eql (Z (.str f.nm)) (Z (.str g.nm)) = some (B false) := by simp [aBin, aStr, hne]
  rw [f14_run]
  unfold f14
  refine ⟨s2, ?_, ⟨by rw [hs2, hs1]; exact St.wf_set (St.wf_set h.wf hml _) hml _, by rw [hF i (Ne.symm hmi)]; exact h.ri, by rw [hs2, St.get_set_same]; rfl, fun k q hq => ?_, fun k k' q q' hq hq' => ?_, by simp⟩, by rw [hs2, hs1]; exact Nat.le_refl _, hF⟩
  · generalize R (d + 2) = r at e1 e2 ⊢
    simp [e1, e2, aExtract, neq, l1, dl, l2, ms]
  · cases k with
    | zero =>
      simp at hq
      subst hq
      obtain ⟨a1, a2, a3, a4, a5, a6, a7⟩ := h.fl 0 f rfl
      exact ⟨by rw [hF _ a6]; exact a1, a2.keep fun c hc => hF c (a7 c hc).2, a3, a4, a5, a6, a7⟩
    | succ k => simp at hq
  · cases k with
    | zero => cases k' with
      | zero =>
        simp at hq hq'
        subst hq; subst hq'
        exact ⟨fun e => absurd rfl e, fun c hc => ⟨((h.ap 0 0 f f rfl rfl).2 c hc).1, fun e => absurd rfl e⟩⟩
      | succ k' => simp at hq'
    | succ k => simp at hq

theorem names_run' (s0 : St) (wf : s0.wf) {a b c : S} {la lb lc : List S} (ha : Arg s0 a la) (hb : Arg s0 b lb) (hc : Arg s0 c lc) : ∃ τ, R 6 5 [Z a, Z b, Z c] s0 = some (B true, τ) := by
  rw [f5_run]
  unfold f5
  obtain ⟨s1, e1, h1, g1⟩ := new_run (room := 1000) 4 wf (by omega) (by omega)
  generalize s0.size + 1 = i at e1 h1
  have lla := ha.rd.len
  have llb := hb.rd.len
  have llc := hc.rd.len
  by_cases hlong : 30 < la.length ∨ 30 < lb.length ∨ 30 < lc.length
  · have e6 := told_run 4 s1
    simp only [Nat.reduceAdd] at e1 e6
    generalize R 5 = r at e1 e6 ⊢
    refine ⟨s1, ?_⟩
    by_cases hla : (30 : Int) < la.length
    · simp [e1, lla, llb, llc, hla, e6]
    · by_cases hlb : (30 : Int) < lb.length
      · simp [e1, lla, llb, llc, hla, hlb, e6]
      · have hlc : (30 : Int) < lc.length := by omega
        simp [e1, lla, llb, llc, hla, hlb, hlc, e6]
  · have c1 : ¬ (30 : Int) < la.length := by omega
    have c2 : ¬ (30 : Int) < lb.length := by omega
    have c3 : ¬ (30 : Int) < lc.length := by omega
    have z01 := g1.2.1
    have ha1 := ha.gr g1.2.2 g1.2.1
    -- a to x
    obtain ⟨x1, fb, s2, e2, h2, z2, k2, hfb, hx1⟩ := append_new 2 h1 ⟨by simp, by simp⟩ (nm := [120]) (by simp) may_x ha1.rd ha1.lt (fun e => by
      have := ha.lt _ e
      omega) (by simp [tot]; omega) (by omega)
    rw [List.nil_append] at h2
    obtain ⟨s3, e3, h3, z3, k3⟩ := sync_run 2 h2 (k := 0) rfl may_x
    simp only [List.set_cons_zero] at h3
    have old3 : ∀ q, q < s0.size → s3.get q = s0.get q := fun q hq => by rw [k3 q (by show q ≠ fb; omega), k2 q (by omega) (by omega), g1.2.2 q hq]
    have hb3 : Arg s3 b lb := hb.gr old3 (by omega)
    -- b to x
    obtain ⟨x4, s4, e4, h4, z4, k4, o4⟩ := append_run 2 h3 ⟨by simp, by simp⟩ (k := 0) rfl may_x hb3.rd hb3.lt (by simp [tot]; omega) (by omega) (by show la.length + lb.length ≤ 50000; omega)
    simp only [List.set_cons_zero] at h4
    have old4 : ∀ q, q < s0.size → s4.get q = s0.get q := fun q hq => by rw [k4 q (by omega) (by show q ≠ fb; omega) (fun e => by have := hx1 q e; omega), old3 q hq]
    have hc4 : Arg s4 c lc := hc.gr old4 (by omega)
    -- c to y
    have hlab : (la ++ lb).length = la.length + lb.length := List.length_append
    obtain ⟨x5, fb5, s5, e5, h5, z5, k5, hfb5, hx5⟩ := append_new 2 h4 ⟨by simp, by simp⟩ (nm := [121]) (by simp) may_y hc4.rd hc4.lt (fun e => by
      have := hc.lt _ e
      omega) (by simp [tot]; omega) (by omega)
    rw [List.singleton_append] at h5
    have old5 : ∀ q, q < s0.size → s5.get q = s0.get q := fun q hq => by rw [k5 q (by omega) (by omega), old4 q hq]
    -- x is y
    obtain ⟨s6, e6, h6, z6, k6⟩ := rename_run 2 h5 may_x may_y
    have old6 : ∀ q, q < s0.size → s6.get q = s0.get q := fun q hq => by rw [k6 q (by omega), old5 q hq]
    obtain ⟨y7, s7, e7, g7, r7, o7⟩ := read_run 2 h6 (k := 0) rfl may_y
    have h7 := h6.gr g7
    have e8 := read_none 2 h7 (nm := [120]) (by simp) may_x
    rcases names_run 4 h7 (by simp) (by simp) with ⟨e, _⟩ | ⟨_, e9⟩
    · cases e
    obtain ⟨s9, hs9⟩ : ∃ s9, s9 = s7.push (.cells true [S.str [121]]) := ⟨_, rfl⟩
    have e9' : R 5 15 [Z (.ptr i 0)] s7 = some (Z (.sl s7.size 0 1 (.grown 1)), s9) := by rw [hs9]; exact e9
    have g9 : Gr s7 s9 := by rw [hs9]; exact Gr.push h7.wf _
    have h9 := h7.gr g9
    have hn9 : s9.get s7.size = some (.cells true [S.str [121]]) := by rw [hs9]; exact St.get_push_same _ _
    -- a crash that keeps nothing
    obtain ⟨x10, s10, e10, h10, z10, k10, o10⟩ := crash_run (n := 0) 3 h9 (by simp) (y := .nils) (.inl ⟨rfl, rfl⟩) (by show la.length + 0 ≤ (la ++ lb).length; omega)
    have hl10 : (la ++ lb).take (la.length + 0) = la := by rw [Nat.add_zero, List.take_append_of_le_length (Nat.le_refl _), List.take_length]
    simp only [hl10] at h10
    obtain ⟨y11, s11, e11, g11, r11, o11⟩ := read_run 2 h10 (k := 0) rfl may_y
    have e12 := told_run 4 s11
    have z67 := g7.2.1
    have z79 := g9.2.1
    have z1011 := g11.2.1
    have fb6 : fb < s6.size := by have := h6.wf.lt (h6.fl 0 _ rfl).1; exact this
    have old11 : ∀ q, q < s0.size → s11.get q = s0.get q := fun q hq => by
      rw [g11.2.2 q (by omega), k10 q (by omega) (by show q ≠ fb; omega), g9.2.2 q (by omega), g7.2.2 q (by omega), old6 q hq]
    have ha11 : Arg s11 a la := ha.gr old11 (by omega)
    have hb11 : Arg s11 b lb := hb.gr old11 (by omega)
    have r711 : Rd s11 y7 (la ++ lb) := r7.keep fun q hq => by
      have := o7 q hq
      rw [g11.2.2 q (by omega), k10 q (by omega) (by show q ≠ fb; omega), g9.2.2 q (by omega)]
    have z9 : s9.size = s7.size + 1 := by rw [hs9]; rfl
    have hn11 : s11.get s7.size = some (.cells true [S.str [121]]) := by rw [g11.2.2 _ (by omega), k10 _ (by omega) (by show s7.size ≠ fb; omega), hn9]
    have ixn : aIndexSl 1 (Z (.sl s7.size 0 1 (.grown 1))) (I .i64 0) = some (Z (.ptr s7.size 0)) := aIndexSl_int (j := 0) rfl (by omega)
    have ldn : aLoad1 (Z (.ptr s7.size 0)) s11.get = some (Z (.str [121])) := aLoad1_of hn11 rfl
    have t1 := r711.str (ha.bytes.append hb.bytes)
    have t2 := r11.str ha.bytes
    have t3 := ha11.rd.str ha.bytes
    have t4 := hb11.rd.str hb.bytes
    have t5 := str_add (bytesOf la) (bytesOf lb) (by simp [bytesOf]; omega)
    rw [← bytesOf_append] at t5
    have t6 := str_eql (bytesOf (la ++ lb))
    have t7 := str_eql (bytesOf la)
    have t8 := str_eql [121]
    simp only [Nat.reduceAdd] at e1 e2 e3 e4 e5 e6 e7 e8 e10 e11 e12
    generalize R 5 = r at e1 e2 e3 e4 e5 e6 e7 e8 e9' e10 e11 e12 ⊢
    refine ⟨s11, ?_⟩
    simp [e1, lla, llb, llc, c1, c2, c3, e2, e3, e4, e5, e6, e7, e8, e9', aExtract, e10, e11, e12, ixn, ldn, t1, t2, t3, t4, t5, t6, t7, t8]
end Go.Proofs.YtinmpngfehamcaaDoor
