/-
  Several texts in one: what functions that the law reaches compute. No conditions but those named in each line.
-/
import Derived.Test.YtlhbidbdmdcdeaaGreatDoorFnsC
import Derived.Test.YtlhbidbdmdcdeaaGreatDoorAbsE
import Derived.Test.YtlhbidbdmdcdeaaGreatDoorFnsA
/-
  The document's own May of entries. No conditions but those named in each line.
-/
namespace Go.Proofs.YtlhbidbdmdcdeaaGreatDoor
open Go Go.Abs Go.Abs.F
set_option linter.unusedVariables false
section
variable {s t : St} {x y : S} {l : Bs} {i c : Nat}

/-- One cell of the other block is stored; a block keeps. -/
theorem st_cell {s0 u : St} {n m j : Nat} {xs : List S} {v : S} (g : Gr s0 u) (hm : u.get m = some (.cells true xs)) (hs : s0.size ≤ m) (hj : j < xs.length) (hne : n ≠ m) :
    ∃ u', aStore 1 (Z (.ptr m j)) (Z v) u = some (tt, u') ∧ u'.get m = some (.cells true (xs.set j v)) ∧ (∀ k, aLoad1 (Z (.ptr n k)) u'.get = aLoad1 (Z (.ptr n k)) u.get) ∧ u'.get n = u.get n ∧ Gr s0 u' := by
  have e := aStore1_of (σ := u) (i := m) (o := j) (x := v) hm hj
  have hn : (u.set m (.cells true (setRange xs j [v]))).get n = u.get n := St.get_set_ne _ _ hne
  refine ⟨_, e, St.get_set_same _ _ _, fun k => ?_, hn, St.wf_set g.wf (g.wf.lt hm) _, by simpa using g.2.1, fun b hb => by rw [St.get_set_ne _ _ (by omega)]; exact g.2.2 b hb⟩
  simp only [aLoad1, hn]

set_option maxHeartbeats 4000000 in
theorem rmayE_run (d : Nat) (wf : s.wf) (e : Ent) (hx : e.x.length ≤ 8000) : ∃ t, R (d + 4) 38 [AE e] s = some (B (mayE e), t) ∧ Gr s t := by
  rw [f38_run]
  unfold f38
  obtain ⟨n, hn⟩ : ∃ n, n = s.size := ⟨_, rfl⟩
  obtain ⟨s1, hs1⟩ : ∃ s1, s1 = s.push (.cells true (cE e)) := ⟨_, rfl⟩
  have nw1 : aNew s (nBox (AE e)) = some (Z (.ptr n 0), s1) := by rw [hs1, hn]; rfl
  have g1 : Gr s s1 := by rw [hs1]; exact Gr.push wf _
  have z1 : s1.size = n + 1 := by rw [hs1, hn]; rfl
  have b1 : s1.get n = some (.cells true (cE e)) := by rw [hs1, hn]; exact St.get_push_same _ _
  have fa : ∀ j, aFieldAddr j (Z (.ptr n 0)) = some (Z (.ptr n j)) := fun j => by simp [aFieldAddr]
  have fb : ∀ j, aFieldAddr j (Z (.ptr (n + 1) 0)) = some (Z (.ptr (n + 1) j)) := fun j => by simp [aFieldAddr]
  have l0 : aLoad1 (Z (.ptr n 0)) s1.get = some (I .i64 e.k) := aLoad1_of b1 rfl
  have l1 : aLoad1 (Z (.ptr n 1)) s1.get = some (I .i64 e.v) := aLoad1_of b1 rfl
  by_cases hv : e.v < 0 ∨ 1073741824 < e.v
  · have hm : mayE e = false := by unfold mayE; rw [if_pos hv]
    rw [hm]
    refine ⟨s1, ?_, g1⟩
    generalize R (d + 3) = r at *
    rcases Classical.em (e.v < 0) with h | h
    · simp [nw1, fa, l1, h, gtt]
    · have h' := hv.resolve_left h
      simp [nw1, fa, l1, h, h']
  · have v1 : ¬ e.v < 0 := fun h => hv (.inl h)
    have v2 : ¬ 1073741824 < e.v := fun h => hv (.inr h)
    obtain ⟨x0, hx0⟩ : ∃ x0 : Ent, x0 = { ent0 with k := e.k, v := e.v } := ⟨_, rfl⟩
    have ag : asAggT (aFill [.int .i64 0, .int .i64 0, .int .i64 0, .int .i64 0, .int .i64 0, .int .i64 0, .int .u32 0, .str []] [(0, 1, I .i64 e.k), (1, 1, I .i64 e.v)]) = some (AE x0) := by rw [hx0]; rfl
    obtain ⟨s2, hs2⟩ : ∃ s2, s2 = s1.push (.cells true (cE ent0)) := ⟨_, rfl⟩
    have nw2 : aNew s1 (nCells [.int .i64 0, .int .i64 0, .int .i64 0, .int .i64 0, .int .i64 0, .int .i64 0, .int .u32 0, .str []]) = some (Z (.ptr (n + 1) 0), s2) := by rw [hs2, ← z1]; rfl
    have b2 : s2.get (n + 1) = some (.cells true (cE ent0)) := by rw [hs2, ← z1]; exact St.get_push_same _ _
    have b2' : s2.get n = some (.cells true (cE e)) := by rw [hs2, St.get_push_ne _ _ (by omega)]; exact b1
    have z2 : s2.size = n + 2 := by rw [hs2]; simp [z1]
    obtain ⟨s3, hs3⟩ : ∃ s3, s3 = s2.set (n + 1) (.cells true (cE x0)) := ⟨_, rfl⟩
    have st3 := store8 (e := x0) b2 rfl
    rw [← hs3] at st3
    have b3 : s3.get (n + 1) = some (.cells true (cE x0)) := by rw [hs3]; exact St.get_set_same _ _ _
    have b3' : s3.get n = some (.cells true (cE e)) := by rw [hs3, St.get_set_ne _ _ (by omega)]; exact b2'
    have g3 : Gr s s3 := ⟨by rw [hs3, hs2]; exact St.wf_set (St.wf_push g1.wf _) (by simp [z1]) _, by rw [hs3]; simp [z2]; omega, fun b hb => by rw [hs3, St.get_set_ne _ _ (by omega), hs2, St.get_push_ne _ _ (by omega)]; exact g1.2.2 b hb⟩
    have m0 : aLoad1 (Z (.ptr n 0)) s3.get = some (I .i64 e.k) := aLoad1_of b3' rfl
    have m1 : aLoad1 (Z (.ptr n 1)) s3.get = some (I .i64 e.v) := aLoad1_of b3' rfl
    have m2 : aLoad1 (Z (.ptr n 2)) s3.get = some (I .i64 e.i) := aLoad1_of b3' rfl
    have m3 : aLoad1 (Z (.ptr n 3)) s3.get = some (I .i64 e.t) := aLoad1_of b3' rfl
    have m4 : aLoad1 (Z (.ptr n 4)) s3.get = some (I .i64 e.f) := aLoad1_of b3' rfl
    have m5 : aLoad1 (Z (.ptr n 5)) s3.get = some (I .i64 e.o) := aLoad1_of b3' rfl
    have m6 : aLoad1 (Z (.ptr n 6)) s3.get = some (I .u32 e.u) := aLoad1_of b3' rfl
    have m7 : aLoad1 (Z (.ptr n 7)) s3.get = some (Z (.str e.x)) := aLoad1_of b3' rfl
    -- the end: are they one?
    have fin : ∀ (u : St) (w : Ent), u.get n = some (.cells true (cE e)) → u.get (n + 1) = some (.cells true (cE w)) → aLoadN 8 (Z (.ptr (n + 1) 0)) u.get = some (AE w) ∧ aLoadN 8 (Z (.ptr n 0)) u.get = some (AE e) := fun u w h h' => ⟨load8 h', load8 h⟩
    have eqn := eqBE
    by_cases k3 : e.k = 3
    · obtain ⟨f1, f2⟩ := fin s3 x0 b3' b3
      have hm : mayE e = (decide (0 < e.v) && decide (e = x0)) := by
        unfold mayE
        rw [if_neg hv, if_neg (by omega), if_neg (by omega), if_pos k3, hx0, k3]
      rw [hm]
      refine ⟨s3, ?_, g3⟩
      rw [k3] at m0
      have hk : e.k = 3 := k3
      generalize R (d + 3) = r at *
      by_cases hv1 : e.v < 1
      · have : ¬ 0 < e.v := by omega
        simp [nw1, fa, l0, l1, v1, v2, ag, nw2, st3, m0, m1, hv1, this]
      · have h0 : 0 < e.v := by omega
        have hc : decide (x0 = e) = decide (e = x0) := decide_eq_decide.2 ⟨Eq.symm, Eq.symm⟩
        simp [nw1, fa, l0, l1, v1, v2, ag, nw2, st3, m0, m1, hv1, h0, f1, f2, eqn, hc]
    · by_cases k2 : e.k = 2
      · obtain ⟨s9, e9, r9, o9, q9, g9⟩ := st_cell (n := n) (m := n + 1) (j := 2) (v := .int .i64 e.i) g3 b3 (by omega) (by rw [cE_len]; omega) (by omega)
        have hx2 : (cE x0).set 2 (.int .i64 e.i) = cE { x0 with i := e.i } := rfl
        rw [hx2] at r9
        rw [b3'] at q9
        obtain ⟨f1, f2⟩ := fin s9 _ q9 r9
        have hm : mayE e = (idOk e.i && decide (e = { x0 with i := e.i })) := by
          unfold mayE
          rw [if_neg hv, if_neg (by omega), if_pos k2, hx0, k2]
        rw [hm]
        refine ⟨s9, ?_, g9⟩
        have o2 := o9 2
        rw [m2] at o2
        rw [k2] at m0
        have hc : decide ({ x0 with i := e.i } = e) = decide (e = { x0 with i := e.i }) := decide_eq_decide.2 ⟨Eq.symm, Eq.symm⟩
        generalize ({ x0 with i := e.i } : Ent) = xx at *
        generalize R (d + 3) = r at *
        by_cases h1 : e.i < 1
        · have hid : idOk e.i = false := by unfold idOk; rw [decide_eq_false (by omega)]; rfl
          simp [nw1, fa, fb, l0, l1, v1, v2, ag, nw2, st3, m0, m2, e9, o2, h1, hid, gtt]
        · by_cases h2 : 1073741824 < e.i
          · have hid : idOk e.i = false := by unfold idOk; rw [decide_eq_false (show ¬ e.i ≤ 1073741824 by omega), Bool.and_false]
            simp [nw1, fa, fb, l0, l1, v1, v2, ag, nw2, st3, m0, m2, e9, o2, h1, h2, hid]
          · have hid : idOk e.i = true := by unfold idOk; rw [decide_eq_true (show 1 ≤ e.i by omega), decide_eq_true (show e.i ≤ 1073741824 by omega)]; rfl
            simp [nw1, fa, fb, l0, l1, v1, v2, ag, nw2, st3, m0, m2, e9, o2, h1, h2, hid, f1, f2, eqn, hc]
      · by_cases k4 : e.k = 4
        · obtain ⟨s9, e9, r9, o9, q9, g9⟩ := st_cell (n := n) (m := n + 1) (j := 7) (v := .str e.x) g3 b3 (by omega) (by rw [cE_len]; omega) (by omega)
          have hx2 : (cE x0).set 7 (.str e.x) = cE { x0 with x := e.x } := rfl
          rw [hx2] at r9
          rw [b3'] at q9
          obtain ⟨s11, e11, g11⟩ := rparse_run (l := e.x) d g9.wf hx
          rw [rparseP_eq] at e11
          obtain ⟨s12, hs12⟩ : ∃ s12, s12 = s11.push (.cells true (cP pol0)) := ⟨_, rfl⟩
          have nw12 : aNew s11 (nCells [.int .i64 0, .int .i64 0, .int .i64 0, .int .i64 0, .int .i64 0, .int .i64 0]) = some (Z (.ptr s11.size 0), s12) := by rw [hs12]; rfl
          have b12 : s12.get s11.size = some (.cells true (cP pol0)) := by rw [hs12]; exact St.get_push_same _ _
          obtain ⟨s13, hs13⟩ : ∃ s13, s13 = s12.set s11.size (.cells true (cP (parseP e.x).1)) := ⟨_, rfl⟩
          have st13 := store6 (p := (parseP e.x).1) b12 rfl
          rw [← hs13] at st13
          have g13 : Gr s11 s13 := ⟨by rw [hs13, hs12]; exact St.wf_set (St.wf_push g11.wf _) (by simp) _, by rw [hs13, hs12]; simp, fun b hb => by rw [hs13, St.get_set_ne _ _ (by omega), hs12, St.get_push_ne _ _ (by omega)]⟩
          have gg := g11.trans g13
          have q13 : s13.get n = some (.cells true (cE e)) := by rw [gg.2.2 _ (g9.wf.lt q9)]; exact q9
          have r13 : s13.get (n + 1) = some (.cells true (cE { x0 with x := e.x })) := by rw [gg.2.2 _ (g9.wf.lt r9)]; exact r9
          obtain ⟨f1, f2⟩ := fin s13 _ q13 r13
          have o7 := o9 7
          rw [m7] at o7
          have p7 : aLoad1 (Z (.ptr n 7)) s13.get = some (Z (.str e.x)) := aLoad1_of q13 rfl
          have hm : mayE e = (decide (e.x.length ≤ 300) && decide (e = { x0 with x := e.x }) && decide ((parseP e.x).2.1 = 0)) := by
            unfold mayE
            rw [if_neg hv, if_neg (by omega), if_neg (by omega), if_neg (by omega), if_pos k4, hx0, k4]
          rw [hm]
          refine ⟨s13, ?_, g9.trans gg⟩
          rw [k4] at m0
          have hc : decide ({ x0 with x := e.x } = e) = decide (e = { x0 with x := e.x }) := decide_eq_decide.2 ⟨Eq.symm, Eq.symm⟩
          have hl : aLenStr (Z (.str e.x)) = some (I .i64 ((e.x.length : Nat) : Int)) := rfl
          have h300 : decide ((300 : Int) < ((e.x.length : Nat) : Int)) = !decide (e.x.length ≤ 300) := by
            by_cases h : e.x.length ≤ 300
            · rw [decide_eq_true h, decide_eq_false (by omega)]; rfl
            · rw [decide_eq_false h, decide_eq_true (by omega)]; rfl
          simp only [resP] at e11
          generalize ({ x0 with x := e.x } : Ent) = xx at *
          generalize ((e.x.length : Nat) : Int) = XL at *
          generalize R (d + 3) = r at *
          generalize decide (e.x.length ≤ 300) = b300 at *
          by_cases hp : (parseP e.x).2.1 = 0
          · rw [hp] at e11
            cases b300 with
            | true =>
              have h300' : decide ((300 : Int) < XL) = false := h300
              simp [nw1, fa, fb, l0, l1, v1, v2, ag, nw2, st3, m0, m7, e9, o7, e11, aExtract, nw12, st13, p7, hl, h300', f1, f2, eqn, hc, hp]
            | false =>
              have h300' : decide ((300 : Int) < XL) = true := h300
              simp [nw1, fa, fb, l0, l1, v1, v2, ag, nw2, st3, m0, m7, e9, o7, e11, aExtract, nw12, st13, p7, hl, h300', hp]
          · simp [nw1, fa, fb, l0, l1, v1, v2, ag, nw2, st3, m0, m7, e9, o7, e11, aExtract, nw12, st13, hp, gtt]
        · by_cases k1 : e.k = 1
          · obtain ⟨s4, e4, r4, o4, q4, g4⟩ := st_cell (n := n) (m := n + 1) (j := 2) (v := .int .i64 e.i) g3 b3 (by omega) (by rw [cE_len]; omega) (by omega)
            obtain ⟨s5, e5, r5, o5, q5, g5⟩ := st_cell (n := n) (m := n + 1) (j := 3) (v := .int .i64 e.t) g4 r4 (by omega) (by simp [cE]) (by omega)
            obtain ⟨s6, e6, r6, o6, q6, g6⟩ := st_cell (n := n) (m := n + 1) (j := 4) (v := .int .i64 e.f) g5 r5 (by omega) (by simp [cE]) (by omega)
            obtain ⟨s7, e7, r7, o7, q7, g7⟩ := st_cell (n := n) (m := n + 1) (j := 5) (v := .int .i64 e.o) g6 r6 (by omega) (by simp [cE]) (by omega)
            obtain ⟨s8, e8, r8, o8, q8, g8⟩ := st_cell (n := n) (m := n + 1) (j := 6) (v := .int .u32 e.u) g7 r7 (by omega) (by simp [cE]) (by omega)
            have hx2 : (((((cE x0).set 2 (.int .i64 e.i)).set 3 (.int .i64 e.t)).set 4 (.int .i64 e.f)).set 5 (.int .i64 e.o)).set 6 (.int .u32 e.u) = cE { x0 with i := e.i, t := e.t, f := e.f, o := e.o, u := e.u } := rfl
            rw [hx2] at r8
            rw [q7, q6, q5, q4, b3'] at q8
            obtain ⟨f1, f2⟩ := fin s8 _ q8 r8
            have O5 : ∀ k, aLoad1 (Z (.ptr n k)) s5.get = aLoad1 (Z (.ptr n k)) s3.get := fun k => (o5 k).trans (o4 k)
            have O6 : ∀ k, aLoad1 (Z (.ptr n k)) s6.get = aLoad1 (Z (.ptr n k)) s3.get := fun k => (o6 k).trans (O5 k)
            have O7 : ∀ k, aLoad1 (Z (.ptr n k)) s7.get = aLoad1 (Z (.ptr n k)) s3.get := fun k => (o7 k).trans (O6 k)
            have O8 : ∀ k, aLoad1 (Z (.ptr n k)) s8.get = aLoad1 (Z (.ptr n k)) s3.get := fun k => (o8 k).trans (O7 k)
            have hm : mayE e = (decide (e.x = []) && idOk e.i && decide (0 ≤ e.t) && decide (e.t < 4) && decide (0 ≤ e.f) && decide (e.f < e.o) && decide (e.o ≤ 1099511627776)) := by
              unfold mayE
              rw [if_neg hv, if_pos k1]
            have hc : decide ({ x0 with i := e.i, t := e.t, f := e.f, o := e.o, u := e.u } = e) = decide (e.x = []) := by
              refine decide_eq_decide.2 ⟨fun h => ?_, fun h => ?_⟩
              · have := congrArg Ent.x h
                rw [hx0] at this
                exact this.symm
              · rw [hx0]
                show Ent.mk e.k e.v e.i e.t e.f e.o e.u [] = e
                rw [← h]
            rw [hm]
            refine ⟨s8, ?_, g8⟩
            rw [k1] at m0
            clear o5 o6 o7 o8 r4 r5 r6 r7 q4 q5 q6 q7 hx2
            generalize ({ x0 with i := e.i, t := e.t, f := e.f, o := e.o, u := e.u } : Ent) = xx at *
            generalize R (d + 3) = r at *
            have hid : idOk e.i = (decide (1 ≤ e.i) && decide (e.i ≤ 1073741824)) := rfl
            rw [hid]
            by_cases h1 : e.i < 1
            · have : ¬ 1 ≤ e.i := by omega
              simp [nw1, fa, fb, l0, l1, v1, v2, ag, nw2, st3, m0, m2, m3, m4, m5, m6, e4, e5, e6, e7, e8, o4, O5, O6, O7, O8, h1, this, gtt]
            · have h1' : 1 ≤ e.i := by omega
              by_cases h2 : 1073741824 < e.i
              · have : ¬ e.i ≤ 1073741824 := by omega
                simp [nw1, fa, fb, l0, l1, v1, v2, ag, nw2, st3, m0, m2, m3, m4, m5, m6, e4, e5, e6, e7, e8, o4, O5, O6, O7, O8, h1, h2, this, gtt]
              · have h2' : e.i ≤ 1073741824 := by omega
                by_cases h3 : e.t < 0
                · have : ¬ 0 ≤ e.t := by omega
                  simp [nw1, fa, fb, l0, l1, v1, v2, ag, nw2, st3, m0, m2, m3, m4, m5, m6, e4, e5, e6, e7, e8, o4, O5, O6, O7, O8, h1, h2, h3, this, gtt]
                · have h3' : 0 ≤ e.t := by omega
                  by_cases h4 : 3 < e.t
                  · have : ¬ e.t < 4 := by omega
                    simp [nw1, fa, fb, l0, l1, v1, v2, ag, nw2, st3, m0, m2, m3, m4, m5, m6, e4, e5, e6, e7, e8, o4, O5, O6, O7, O8, h1, h2, h3, h4, this, gtt]
                  · have h4' : e.t < 4 := by omega
                    by_cases h5 : e.f < 0
                    · have : ¬ 0 ≤ e.f := by omega
                      simp [nw1, fa, fb, l0, l1, v1, v2, ag, nw2, st3, m0, m2, m3, m4, m5, m6, e4, e5, e6, e7, e8, o4, O5, O6, O7, O8, h1, h2, h3, h4, h5, this, gtt]
                    · have h5' : 0 ≤ e.f := by omega
                      by_cases h6 : e.o ≤ e.f
                      · have : ¬ e.f < e.o := by omega
                        simp [nw1, fa, fb, l0, l1, v1, v2, ag, nw2, st3, m0, m2, m3, m4, m5, m6, e4, e5, e6, e7, e8, o4, O5, O6, O7, O8, h1, h2, h3, h4, h5, h6, this, gtt]
                      · have h6' : e.f < e.o := by omega
                        by_cases h7 : 1099511627776 < e.o
                        · have : ¬ e.o ≤ 1099511627776 := by omega
                          simp [nw1, fa, fb, l0, l1, v1, v2, ag, nw2, st3, m0, m2, m3, m4, m5, m6, e4, e5, e6, e7, e8, o4, O5, O6, O7, O8, h1, h2, h3, h4, h5, h6, h7, this, gtt]
                        · have h7' : e.o ≤ 1099511627776 := by omega
                          simp [nw1, fa, fb, l0, l1, v1, v2, ag, nw2, st3, m0, m2, m3, m4, m5, m6, e4, e5, e6, e7, e8, o4, O5, O6, O7, O8, h1, h2, h3, h4, h5, h6, h7, h1', h2', h3', h4', h5', h6', h7', f1, f2, eqn, hc]
          · have hm : mayE e = false := by
              unfold mayE
              rw [if_neg hv, if_neg k1, if_neg k2, if_neg k3, if_neg k4]
            rw [hm]
            refine ⟨s3, ?_, g3⟩
            generalize R (d + 3) = r at *
            simp [nw1, fa, fb, l0, l1, v1, v2, ag, nw2, st3, m0, k1, k2, k3, k4]
end
end Go.Proofs.YtlhbidbdmdcdeaaGreatDoor

/-
  The document's numbers and sums: what the functions compute, in any store. No conditions but those named in each line.
-/
namespace Go.Proofs.YtlhbidbdmdcdeaaGreatDoor
open Go Go.Abs Go.Abs.F
set_option linter.unusedVariables false
section
variable {s t : St} {x y : S} {bs cs : List UInt8}

theorem rvput_run (d : Nat) (wf : s.wf) (n : Nat) (hn : n < 2 ^ 64) : ∃ t, R (d + 1) 43 [I .u64 n] s = some (Z (.str (vput n)), t) ∧ Gr s t := by
  rw [f43_run]
  unfold f43
  obtain ⟨m, x, acc, τ, lp, hF, hm, hacc⟩ := vput_loop (R d) wf n hn
  have lp' : loops (f43_l1 (R d) 8192) 8192 [I .u64 n, Z .nils] s = some (.exit 0 [I .u64 m, Z x], τ) := lp
  have nw := lit1 τ m
  have hb : (UInt8.ofNat m).toNat = m := by rw [byte_nat]; omega
  obtain ⟨x', t, ap, hF', _⟩ := FB.lit hF (cs := [UInt8.ofNat m]) (by simp; omega)
  rw [hacc.1] at hF'
  refine ⟨t, ?_, hF'.gr⟩
  have hw : IntKind.u8.wrap (m : Int) = (m : Int) := by rw [wrap8]; omega
  have hs := RB.str hF'.rd
  simp only [U, List.map_cons, List.map_nil, List.length_cons, List.length_nil, Nat.zero_add, hb] at ap
  simp [lp', hw, nw, ap, hs]

theorem four_run (d : Nat) (wf : s.wf) (q : Nat) : ∃ t, R (d + 1) 44 [I .u32 q] s = some (Z (.str (four q)), t) ∧ Gr s t := by
  rw [f44_run]
  unfold f44
  have nw := lit4 s (q % 256) (q / 2 ^ 8 % 256) (q / 2 ^ 16 % 256) (q / 2 ^ 24 % 256)
  have hU : U (four q) = [.int .u8 (q % 256 : Nat), .int .u8 (q / 2 ^ 8 % 256 : Nat), .int .u8 (q / 2 ^ 16 % 256 : Nat), .int .u8 (q / 2 ^ 24 % 256 : Nat)] := by
    simp only [U, four, List.map_cons, List.map_nil, byte_nat]
  rw [← hU] at nw
  have c0 := wrap8 q
  have c1 := wrap8 (q / 2 ^ 8)
  have c2 := wrap8 (q / 2 ^ 16)
  have c3 := wrap8 (q / 2 ^ 24)
  have r1 : aBin .shr (I .u32 q) (I .u64 8) = some (I .u32 ((q / 2 ^ 8 : Nat))) := shr_nat .u32 q 8 (by decide)
  have r2 : aBin .shr (I .u32 q) (I .u64 16) = some (I .u32 ((q / 2 ^ 16 : Nat))) := shr_nat .u32 q 16 (by decide)
  have r3 : aBin .shr (I .u32 q) (I .u64 24) = some (I .u32 ((q / 2 ^ 24 : Nat))) := shr_nat .u32 q 24 (by decide)
  have g : Gr s (s.push (.cells true (U (four q)))) := Gr.push wf _
  have rd : RB (s.push (.cells true (U (four q)))) (.sl s.size 0 4 (.known 4)) (four q) := (Fr.lit 1 wf (n := 4) (vs := U (four q)) rfl).rd
  have hs := rd.str
  refine ⟨_, ?_, g⟩
  generalize s.push (.cells true (U (four q))) = t at nw hs ⊢
  generalize ((q / 2 ^ 8 % 256 : Nat) : Int) = Q1 at nw c1
  generalize ((q / 2 ^ 16 % 256 : Nat) : Int) = Q2 at nw c2
  generalize ((q / 2 ^ 24 % 256 : Nat) : Int) = Q3 at nw c3
  generalize ((q % 256 : Nat) : Int) = Q0 at nw c0
  generalize ((q / 2 ^ 8 : Nat) : Int) = P1 at r1 c1
  generalize ((q / 2 ^ 16 : Nat) : Int) = P2 at r2 c2
  generalize ((q / 2 ^ 24 : Nat) : Int) = P3 at r3 c3
  generalize (q : Int) = Q at *
  simp [c0, c1, c2, c3, r1, r2, r3, nw, hs]

theorem rsum_run (d : Nat) (hl : bs.length ≤ 8000) : R (d + 2) 45 [Z (.str bs)] s = some (I .u32 (sumB 1 bs), s) := by
  have key : R (d + 1) 71 [I .u32 1, Z (.str bs)] s = some (I .u32 (sumB 1 bs), s) := by
    rw [f71_run]
    unfold f71
    have hll := len_str bs
    obtain ⟨j, τ, lp, hj, hτ⟩ := loops_inv (f := f71_l1 (R d) 8192) (fun q v u => ∃ k n : Nat, q + k = bs.length ∧ v = [Z (.str bs), I .u64 n, I .i64 k] ∧ u = s ∧ n < 4294967291 ∧ sumB n (bs.drop k) = sumB 1 bs)
      (fun j u => j = .exit 0 [I .u64 (sumB 1 bs)] ∧ u = s) (by
      rintro q v u ⟨k, n, hk, rfl, rfl, hn, hg⟩
      by_cases hkl : k < bs.length
      · left
        have hc : bs[k]? = some bs[k] := List.getElem?_eq_getElem hkl
        have hd : bs.drop k = bs[k] :: bs.drop (k + 1) := List.drop_eq_getElem_cons hkl
        rw [hd] at hg
        have ix := at_str (n := (k : Int)) rfl hc
        have hcb : bs[k].toNat < 256 := bs[k].toNat_lt
        obtain ⟨A1, A2, A3, A4, hA4, m1, m2, m3, m4⟩ : ∃ A1 A2 A3 A4 : Int, A4 = (((n * 257 + bs[k].toNat + 1) % 4294967291 : Nat) : Int) ∧ aBin .mul (I .u64 n) (I .u64 257) = some (I .u64 A1) ∧ aBin .add (I .u64 A1) (I .u64 bs[k].toNat) = some (I .u64 A2) ∧
            aBin .add (I .u64 A2) (I .u64 1) = some (I .u64 A3) ∧ aBin .rem (I .u64 A3) (I .u64 4294967291) = some (I .u64 A4) := ⟨_, _, _, _, rfl, More.step n bs[k].toNat hn hcb u⟩
        have hw : IntKind.u64.wrap (bs[k].toNat : Int) = (bs[k].toNat : Int) := wrap64 _ (by omega)
        have w1 : IntKind.i64.wrap ((k : Int) + 1) = ((k + 1 : Nat) : Int) := by rw [wrap_in _ (by omega) (by omega)]; omega
        have c0 : ((k : Int) < (bs.length : Int)) = True := eq_true (by omega)
        refine ⟨[Z (.str bs), I .u64 (((n * 257 + bs[k].toNat + 1) % 4294967291 : Nat)), I .i64 ((k + 1 : Nat) : Int)], u, q - 1, ?_, by omega, k + 1, _, by omega, rfl, rfl, Nat.mod_lt _ (by decide), hg⟩
        unfold f71_l1
        generalize ((k + 1 : Nat) : Int) = K1 at w1 ⊢
        rw [← hA4]
        generalize (bs[k].toNat : Int) = C at m2 ix hw
        generalize (k : Int) = K at w1 ix c0 ⊢
        simp only [jn_normal, bd_some, List.getD_cons_zero, List.getD_cons_succ, hll, lss_int, br_true, decide_true, c0, ix, m1, m2, m3, m4, aConv_int, hw, add_int, w1]
      · right
        have hk' : k = bs.length := by omega
        have c0 : ¬ ((k : Int) < (bs.length : Int)) := by omega
        have hg' : n = sumB 1 bs := by
          rw [List.drop_eq_nil_of_le (by omega)] at hg
          exact hg
        refine ⟨.exit 0 [I .u64 (sumB 1 bs)], u, ?_, (fun v hv => by cases hv), rfl, rfl⟩
        unfold f71_l1
        rw [hg']
        simp [hll, c0]) 8192 bs.length [Z (.str bs), I .u64 1, I .i64 0] s ⟨0, 1, rfl, rfl, rfl, by decide, rfl⟩ (by omega)
    subst hj; subst hτ
    have hlt := sumB_lt bs 1 (by decide)
    have h32 : IntKind.u32.wrap (sumB 1 bs : Int) = (sumB 1 bs : Int) := by rw [wrap32, Nat.mod_eq_of_lt (by omega)]
    have e1 : aConv .u64 (I .u32 1) = some (I .u64 1) := rfl
    have e2 : aBin .rem (I .u64 1) (I .u64 4294967291) = some (I .u64 1) := rfl
    simp [e1, e2, lp, h32]
  rw [f45_run]
  unfold f45
  simp [key]

theorem rgetN_run (r : CallF) (N : Nat) (hl : bs.length ≤ 100000) {at_ : Nat} (ha : at_ ≤ 100000) (res : Option (Nat × Nat)) (hres : getN bs at_ 10 0 0 = res) :
    loops (f42_l1 r N) 8192 [Z (.str bs), I .i64 at_, I .u64 0, I .i64 0] s = some (vjo at_ res, s) := by
  obtain ⟨j, τ, lp, hj, hτ⟩ := loops_inv (f := f42_l1 r N) (fun q v u => ∃ k n : Nat, q + k = 10 ∧ v = [Z (.str bs), I .i64 at_, I .u64 n, I .i64 k] ∧ u = s ∧ n < 2 ^ 64 ∧ getN bs at_ q k n = res)
    (fun j u => j = vjo at_ res ∧ u = s) (by
    rintro q v u ⟨k, n, hk, rfl, rfl, hn, hg⟩
    have hll := len_str bs
    cases q with
    | zero =>
      right
      have hk' : k = 10 := by omega
      subst hk'
      have : res = none := by rw [← hg]; rfl
      subst this
      refine ⟨.exit 0 [I .i64 at_], u, ?_, (fun v hv => by cases hv), rfl, rfl⟩
      unfold f42_l1
      simp
    | succ q =>
      have c0 : ((k : Int) < 10) = True := eq_true (by omega)
      have w0 : IntKind.i64.wrap ((at_ : Int) + k) = ((at_ + k : Nat) : Int) := by rw [wrap_in _ (by omega) (by omega)]; omega
      unfold getN at hg
      cases hc : bs[at_ + k]? with
      | none =>
        rw [hc] at hg
        subst hg
        right
        have hle : bs.length ≤ at_ + k := by simpa using hc
        have c1 : (((at_ + k : Nat) : Int) < (bs.length : Int)) = False := eq_false (by omega)
        refine ⟨.exit 0 [I .i64 at_], u, ?_, (fun v hv => by cases hv), rfl, rfl⟩
        unfold f42_l1
        generalize ((at_ + k : Nat) : Int) = A at w0 c1 ⊢
        generalize (k : Int) = K at *
        simp [c0, w0, hll, c1]
      | some c =>
        rw [hc] at hg
        simp only at hg
        have hlt := (List.getElem?_eq_some_iff.1 hc).1
        have c1 : (((at_ + k : Nat) : Int) < (bs.length : Int)) = True := eq_true (by omega)
        have ix := at_str (n := ((at_ + k : Nat) : Int)) rfl hc
        have hcb : c.toNat < 256 := c.toNat_lt
        have hcv : IntKind.u64.wrap (c.toNat : Int) = (c.toNat : Int) := wrap64 _ (by omega)
        have hand : aBin .and (I .u64 c.toNat) (I .u64 127) = some (I .u64 (c.toNat % 128 : Nat)) := by
          have := and_u64 c.toNat 127 (by omega) (by decide)
          rw [show (c.toNat &&& 127 : Nat) = c.toNat % 128 from Nat.and_two_pow_sub_one_eq_mod c.toNat 7] at this
          exact this
        have hm7 : IntKind.i64.wrap (7 * (k : Int)) = ((7 * k : Nat) : Int) := by rw [wrap_in _ (by omega) (by omega)]; omega
        have hm8 : IntKind.u64.wrap ((7 * k : Nat) : Int) = ((7 * k : Nat) : Int) := wrap64 _ (by omega)
        have w1 : IntKind.i64.wrap ((k : Int) + 1) = ((k + 1 : Nat) : Int) := by rw [wrap_in _ (by omega) (by omega)]; omega
        have w2 : IntKind.i64.wrap (((at_ + k : Nat) : Int) + 1) = ((at_ + k + 1 : Nat) : Int) := by rw [wrap_in _ (by omega) (by omega)]; omega
        by_cases h9 : k = 9 ∧ 1 < c.toNat
        · rw [if_pos h9] at hg
          subst hg
          right
          have d9 : ((k : Int) = 9) = True := eq_true (by omega)
          have d1 : ((1 : Int) < (c.toNat : Int)) = True := eq_true (by omega)
          refine ⟨.exit 0 [I .i64 at_], u, ?_, (fun v hv => by cases hv), rfl, rfl⟩
          unfold f42_l1
          generalize ((at_ + k : Nat) : Int) = A at w0 c1 ix ⊢
          generalize (k : Int) = K at *
          generalize (c.toNat : Int) = C at *
          simp [c0, w0, hll, c1, ix, hcv, d9, d1]
        · rw [if_neg h9] at hg
          have hpow : c.toNat % 128 * 2 ^ (7 * k) < 2 ^ 64 := by
            by_cases e9 : k = 9
            · subst e9
              have : c.toNat % 128 ≤ 1 := by omega
              calc c.toNat % 128 * 2 ^ (7 * 9) ≤ 1 * 2 ^ 63 := Nat.mul_le_mul_right _ this
                _ < 2 ^ 64 := by decide
            · have hk8 : 7 * k ≤ 56 := by omega
              have h128 : c.toNat % 128 < 2 ^ 7 := by omega
              calc c.toNat % 128 * 2 ^ (7 * k) ≤ c.toNat % 128 * 2 ^ 56 := Nat.mul_le_mul_left _ (Nat.pow_le_pow_right (by omega) hk8)
                _ < 2 ^ 64 := by omega
          have hshl := shl_u64 (c.toNat % 128) (7 * k) hpow (by omega)
          have hor := or_u64 n (c.toNat % 128 * 2 ^ (7 * k)) hn hpow
          have hn' : (n ||| c.toNat % 128 * 2 ^ (7 * k)) < 2 ^ 64 := Nat.or_lt_two_pow hn hpow
          obtain ⟨M, hM⟩ : ∃ M, M = (n ||| c.toNat % 128 * 2 ^ (7 * k)) := ⟨_, rfl⟩
          rw [← hM] at hor hn' hg
          have hcase : ((k : Int) = 9) = False ∨ (((k : Int) = 9) = True ∧ ((1 : Int) < (c.toNat : Int)) = False) := by
            by_cases e9 : k = 9
            · exact .inr ⟨eq_true (by omega), eq_false (fun h => h9 ⟨e9, by omega⟩)⟩
            · exact .inl (eq_false (by omega))
          by_cases h128 : 128 ≤ c.toNat
          · rw [if_pos h128] at hg
            left
            have d1 : ((c.toNat : Int) < (128 : Int)) = False := eq_false (by omega)
            refine ⟨[Z (.str bs), I .i64 at_, I .u64 M, I .i64 ((k + 1 : Nat) : Int)], u, q, ?_, rfl, k + 1, M, by omega, rfl, rfl, hn', hg⟩
            generalize ((k + 1 : Nat) : Int) = K1 at w1 ⊢
            unfold f42_l1
            generalize ((c.toNat % 128 * 2 ^ (7 * k) : Nat) : Int) = SH at hshl hor
            generalize ((c.toNat % 128 : Nat) : Int) = L at hand hshl
            generalize ((7 * k : Nat) : Int) = K7 at hm7 hm8 hshl
            generalize ((at_ + k : Nat) : Int) = A at w0 c1 ix
            generalize (k : Int) = K at *
            generalize (c.toNat : Int) = C at *
            rcases hcase with e9 | ⟨e9, e1⟩
            · simp [c0, w0, hll, c1, ix, hcv, e9, hand, hm7, hm8, hshl, hor, d1, w1]
            · simp [c0, w0, hll, c1, ix, hcv, e9, e1, hand, hm7, hm8, hshl, hor, d1, w1]
          · rw [if_neg h128] at hg
            right
            have d1 : ((c.toNat : Int) < (128 : Int)) = True := eq_true (by omega)
            by_cases hz : 0 < k ∧ c.toNat = 0
            · rw [if_pos hz] at hg
              subst hg
              have d2 : ((0 : Int) < (k : Int)) = True := eq_true (by omega)
              have d3 : ((c.toNat : Int) = 0) = True := eq_true (by omega)
              refine ⟨.exit 0 [I .i64 at_], u, ?_, (fun v hv => by cases hv), rfl, rfl⟩
              unfold f42_l1
              generalize ((c.toNat % 128 * 2 ^ (7 * k) : Nat) : Int) = SH at hshl hor
              generalize ((c.toNat % 128 : Nat) : Int) = L at hand hshl
              generalize ((7 * k : Nat) : Int) = K7 at hm7 hm8 hshl
              generalize ((at_ + k : Nat) : Int) = A at w0 c1 ix
              generalize (k : Int) = K at *
              generalize (c.toNat : Int) = C at *
              rcases hcase with e9 | ⟨e9, e1⟩
              · simp [c0, w0, hll, c1, ix, hcv, e9, hand, hm7, hm8, hshl, hor, d1, d2, d3]
              · simp [c0, w0, hll, c1, ix, hcv, e9, e1, hand, hm7, hm8, hshl, hor, d1, d2, d3]
            · rw [if_neg hz] at hg
              subst hg
              refine ⟨.ret (.tup [.s (.int .u64 M), .s (.int .i64 ((at_ + k + 1 : Nat) : Int)), .s (.int .i64 0)]), u, ?_, (fun v hv => by cases hv), rfl, rfl⟩
              have hcase2 : ((c.toNat : Int) = 0) = False ∨ (((c.toNat : Int) = 0) = True ∧ ((0 : Int) < (k : Int)) = False) := by
                by_cases e0 : c.toNat = 0
                · exact .inr ⟨eq_true (by omega), eq_false (fun h => hz ⟨by omega, e0⟩)⟩
                · exact .inl (eq_false (by omega))
              unfold f42_l1
              generalize ((c.toNat % 128 * 2 ^ (7 * k) : Nat) : Int) = SH at hshl hor
              generalize ((c.toNat % 128 : Nat) : Int) = L at hand hshl
              generalize ((7 * k : Nat) : Int) = K7 at hm7 hm8 hshl
              generalize ((at_ + k + 1 : Nat) : Int) = A1 at w2 ⊢
              generalize ((at_ + k : Nat) : Int) = A at w0 w2 c1 ix
              generalize (k : Int) = K at *
              generalize (c.toNat : Int) = C at *
              rcases hcase with e9 | ⟨e9, e1⟩ <;> rcases hcase2 with d2 | ⟨d2, d3⟩
              · simp [c0, w0, hll, c1, ix, hcv, e9, hand, hm7, hm8, hshl, hor, d1, d2, w2, retT, allV]
              · simp [c0, w0, hll, c1, ix, hcv, e9, hand, hm7, hm8, hshl, hor, d1, d2, d3, w2, retT, allV]
              · simp [c0, w0, hll, c1, ix, hcv, e9, e1, hand, hm7, hm8, hshl, hor, d1, d2, w2, retT, allV]
              · simp [c0, w0, hll, c1, ix, hcv, e9, e1, hand, hm7, hm8, hshl, hor, d1, d2, d3, w2, retT, allV]) 8192 10 [Z (.str bs), I .i64 at_, I .u64 0, I .i64 0] s ⟨0, 0, rfl, rfl, rfl, by decide, hres⟩ (by omega)
  subst hτ
  subst hj
  exact lp

theorem rget_run (d : Nat) (hl : bs.length ≤ 100000) {at_ : Nat} (ha : at_ ≤ 100000) : R (d + 1) 42 [Z (.str bs), I .i64 at_] s = some (vres at_ bs.length (vget bs at_), s) := by
  rw [f42_run]
  unfold f42
  have hll := len_str bs
  have c0 : ¬ (at_ : Int) < 0 := by omega
  by_cases hle : at_ ≤ bs.length
  · have c1 : ¬ (bs.length : Int) < (at_ : Int) := by omega
    have lp := rgetN_run (s := s) (R d) 8192 hl ha _ rfl
    unfold vget
    rw [if_pos hle]
    cases hg : getN bs at_ 10 0 0 with
    | none =>
      rw [hg] at lp
      simp [c0, c1, hll, lp, vjo, vres, hle, retT, allV]
    | some p =>
      obtain ⟨n, e⟩ := p
      rw [hg] at lp
      simp [c0, c1, hll, lp, vjo, vres]
  · have c1 : (bs.length : Int) < (at_ : Int) := by omega
    unfold vget
    rw [if_neg hle]
    simp [c0, c1, hll, vres, hle, retT, allV]

end
end Go.Proofs.YtlhbidbdmdcdeaaGreatDoor

/-
  The document's own bytes of entries. No conditions but those named in each line.
-/
namespace Go.Proofs.YtlhbidbdmdcdeaaGreatDoor
open Go Go.Abs Go.Abs.F
set_option linter.unusedVariables false
section
variable {s t : St} {x y : S} {l : Bs} {i c : Nat}

abbrev resS (o : Option Bs) : T := match o with
  | some b => .tup [.s (.str b), .s (.int .i64 0)]
  | none => .tup [.s (.str []), .s (.int .i64 1)]

set_option maxHeartbeats 4000000 in
theorem rput_run (d : Nat) (wf : s.wf) (e : Ent) (hw : EWf e) (hx : e.x.length ≤ 8000) : ∃ t, R (d + 5) 32 [AE e] s = some (resS (putE e), t) ∧ Gr s t := by
  rw [f32_run]
  unfold f32
  obtain ⟨n, hn⟩ : ∃ n, n = s.size := ⟨_, rfl⟩
  obtain ⟨s1, hs1⟩ : ∃ s1, s1 = s.push (.cells true (cE e)) := ⟨_, rfl⟩
  have nw1 : aNew s (nBox (AE e)) = some (Z (.ptr n 0), s1) := by rw [hs1, hn]; rfl
  have g1 : Gr s s1 := by rw [hs1]; exact Gr.push wf _
  have z1 : s1.size = n + 1 := by rw [hs1, hn]; rfl
  have b1 : s1.get n = some (.cells true (cE e)) := by rw [hs1, hn]; exact St.get_push_same _ _
  have l8 := load8 (g := s1.get) b1
  obtain ⟨s2, e2, g2⟩ := rmayE_run d g1.wf e hx
  cases hm : mayE e with
  | false =>
    rw [hm] at e2
    have hp : putE e = none := by unfold putE; rw [hm]; rfl
    rw [hp]
    refine ⟨s2, ?_, g1.trans g2⟩
    generalize R (d + 4) = r at *
    simp [nw1, l8, e2, retT, allV]
  | true =>
    rw [hm] at e2
    have hp : putE e = some (putB e) := by unfold putE; rw [hm]; rfl
    rw [hp]
    obtain ⟨r1, r2, r3, r4, hk1, hk2, hk3, hk4⟩ := mayE_range hm
    have keep : ∀ {u : St}, Gr s1 u → ∀ (j : Nat) (v : S), (cE e)[j]? = some v → aLoad1 (Z (.ptr n j)) u.get = some (Z v) := fun g j v hv => aLoad1_of (g.get b1 g1.wf) hv
    have fa : ∀ j, aFieldAddr j (Z (.ptr n 0)) = some (Z (.ptr n j)) := fun j => by simp [aFieldAddr]
    have wk : IntKind.u8.wrap e.k = ((UInt8.ofNat e.k.toNat).toNat : Int) := by
      have := wrap8 e.k.toNat
      rw [show ((e.k.toNat : Nat) : Int) = e.k by omega] at this
      rw [this, byte_nat]
    obtain ⟨kb, hkb⟩ : ∃ kb, kb = UInt8.ofNat e.k.toNat := ⟨_, rfl⟩
    rw [← hkb] at wk
    obtain ⟨s4, hs4⟩ : ∃ s4, s4 = s2.push (.cells true (U [kb])) := ⟨_, rfl⟩
    have nw4 : aNew s2 (nSlice 1 (aFill [.int .u8 0] [(0, 1, I .u8 kb.toNat)])) = some (Z (.sl s2.size 0 1 (.known 1)), s4) := by rw [hs4, lit1]; rfl
    have f4 : FB s2 s4 (.sl s2.size 0 1 (.known 1)) [kb] := by rw [hs4]; exact Fr.lit 1 g2.wf rfl
    have bs4 : aBytesStr (Z (.sl s2.size 0 1 (.known 1))) s4.get = some (Z (.str [kb])) := RB.str f4.rd
    obtain ⟨s5, e5, g5⟩ := rvput_run (d + 3) f4.gr.wf e.v.toNat (by omega)
    have bs5 : aBytesStr (Z (.sl s2.size 0 1 (.known 1))) s5.get = some (Z (.str [kb])) := RB.str (Rd.gr f4.rd (fun c hc => (f4.new c hc).2) g5)
    have wv : IntKind.u64.wrap e.v = (e.v.toNat : Int) := by rw [wrap_u64_in _ (by omega) (by omega)]; omega
    have g14 := g2.trans f4.gr
    have g15 := g14.trans g5
    have lk2 := keep g2 0 _ rfl
    have lv4 := keep g14 1 _ rfl
    have lk5 := keep g15 0 _ rfl
    have hov : overlay 9 s5.get (ovO 3 s2.size (nSlice 1 (aFill [.int .u8 0] [(0, 1, I .u8 kb.toNat)])) []) = s5.get := rfl
    have vl := vput_len e.v.toNat
    have ad1 : aBin .add (Z (.str [kb])) (Z (.str (vput e.v.toNat))) = some (Z (.str ([kb] ++ vput e.v.toNat))) := str_add _ _ (by simp; omega)
    have hA : ([kb] ++ vput e.v.toNat).length ≤ 12 := by simp; omega
    have hB : putB e = ([kb] ++ vput e.v.toNat) ++ putNs (nums e) ++ e.x := by rw [hkb]; simp [putB]
    obtain ⟨acc, hacc⟩ : ∃ acc, acc = [kb] ++ vput e.v.toNat := ⟨_, rfl⟩
    rw [← hacc] at ad1 hA hB
    simp only [Nat.add_assoc, Nat.reduceAdd] at e5
    -- a number more
    have num : ∀ (u : St) (a : Bs) (m : Nat), Gr s1 u → a.length ≤ 1000 → m < 2 ^ 64 → ∃ u', R (d + 4) 43 [I .u64 m] u = some (Z (.str (vput m)), u') ∧ aBin .add (Z (.str a)) (Z (.str (vput m))) = some (Z (.str (a ++ vput m))) ∧ Gr s1 u' := fun u a m g ha hm => by
      obtain ⟨u', e, g'⟩ := rvput_run (d + 3) g.wf m hm
      have := vput_len m
      exact ⟨u', e, str_add _ _ (by omega), g.trans g'⟩
    have eqf : ∀ m : Int, ¬ e.k = m → aBin .eql (I .i64 e.k) (I .i64 m) = some (B false) := fun m h => by rw [eql_int, decide_eq_false h]
    have eqt : ∀ m : Int, e.k = m → aBin .eql (I .i64 e.k) (I .i64 m) = some (B true) := fun m h => by rw [eql_int, decide_eq_true h]
    rcases (by omega : e.k = 1 ∨ e.k = 2 ∨ e.k = 3 ∨ e.k = 4) with hk | hk | hk | hk
    · obtain ⟨hxx, i0, i1, t0, t1, f0, f1, o1⟩ := hk1 hk
      obtain ⟨w0, w1⟩ := hw
      have wi : IntKind.u64.wrap e.i = (e.i.toNat : Int) := by rw [wrap_u64_in _ (by omega) (by omega)]; omega
      have wt : IntKind.u64.wrap e.t = (e.t.toNat : Int) := by rw [wrap_u64_in _ (by omega) (by omega)]; omega
      have wf : IntKind.u64.wrap e.f = (e.f.toNat : Int) := by rw [wrap_u64_in _ (by omega) (by omega)]; omega
      have wo : IntKind.u64.wrap e.o = (e.o.toNat : Int) := by rw [wrap_u64_in _ (by omega) (by omega)]; omega
      have wu : IntKind.u64.wrap e.u = (e.u.toNat : Int) := by rw [wrap_u64_in _ (by omega) (by omega)]; omega
      obtain ⟨u6, e6, a6, g6⟩ := num s5 (acc) e.i.toNat g15 (by   omega) (by omega)
      obtain ⟨u7, e7, a7, g7⟩ := num u6 (acc ++ vput e.i.toNat) e.t.toNat g6 (by have := vput_len e.i.toNat; simp only [List.length_append]; omega) (by omega)
      obtain ⟨u8, e8, a8, g8⟩ := num u7 (acc ++ vput e.i.toNat ++ vput e.t.toNat) e.f.toNat g7 (by have := vput_len e.i.toNat; have := vput_len e.t.toNat; simp only [List.length_append]; omega) (by omega)
      obtain ⟨u9, e9, a9, g9⟩ := num u8 (acc ++ vput e.i.toNat ++ vput e.t.toNat ++ vput e.f.toNat) e.o.toNat g8 (by have := vput_len e.i.toNat; have := vput_len e.t.toNat; have := vput_len e.f.toNat; simp only [List.length_append]; omega) (by omega)
      obtain ⟨u10, e10, a10, g10⟩ := num u9 (acc ++ vput e.i.toNat ++ vput e.t.toNat ++ vput e.f.toNat ++ vput e.o.toNat) e.u.toNat g9 (by have := vput_len e.i.toNat; have := vput_len e.t.toNat; have := vput_len e.f.toNat; have := vput_len e.o.toNat; simp only [List.length_append]; omega) (by omega)
      have hres : putB e = acc ++ vput e.i.toNat ++ vput e.t.toNat ++ vput e.f.toNat ++ vput e.o.toNat ++ vput e.u.toNat := by
        rw [hB, hxx]
        simp [nums, hk, putNs]
      have L2s5 := keep g15 2 _ rfl
      have L3s5 := keep g15 3 _ rfl
      have L3u6 := keep g6 3 _ rfl
      have L4s5 := keep g15 4 _ rfl
      have L4u6 := keep g6 4 _ rfl
      have L4u7 := keep g7 4 _ rfl
      have L5s5 := keep g15 5 _ rfl
      have L5u6 := keep g6 5 _ rfl
      have L5u7 := keep g7 5 _ rfl
      have L5u8 := keep g8 5 _ rfl
      have L6s5 := keep g15 6 _ rfl
      have L6u6 := keep g6 6 _ rfl
      have L6u7 := keep g7 6 _ rfl
      have L6u8 := keep g8 6 _ rfl
      have L6u9 := keep g9 6 _ rfl
      have E1 := eqt 1 hk
      refine ⟨u10, ?_, g1.trans g10⟩
      rw [hres]
      generalize acc ++ vput e.i.toNat ++ vput e.t.toNat ++ vput e.f.toNat ++ vput e.o.toNat ++ vput e.u.toNat = A10 at *
      generalize acc ++ vput e.i.toNat ++ vput e.t.toNat ++ vput e.f.toNat ++ vput e.o.toNat = A9 at *
      generalize acc ++ vput e.i.toNat ++ vput e.t.toNat ++ vput e.f.toNat = A8 at *
      generalize acc ++ vput e.i.toNat ++ vput e.t.toNat = A7 at *
      generalize acc ++ vput e.i.toNat = A6 at *
      clear num hA hB vl r1 r2 keep
      generalize ((e.v.toNat : Nat) : Int) = EV at *
      generalize ((e.i.toNat : Nat) : Int) = Ni at *
      generalize ((e.t.toNat : Nat) : Int) = Nt at *
      generalize ((e.f.toNat : Nat) : Int) = Nf at *
      generalize ((e.o.toNat : Nat) : Int) = No at *
      generalize ((e.u.toNat : Nat) : Int) = Nu at *
      generalize R (d + 4) = r at *
      simp [-eql_int, nw1, l8, e2, fa, lk2, wk, nw4, bs4, lv4, wv, e5, ad1, hov, lk5, bs5, E1, L2s5, L3s5, L3u6, L4s5, L4u6, L4u7, L5s5, L5u6, L5u7, L5u8, L6s5, L6u6, L6u7, L6u8, L6u9, wi, wt, wf, wo, wu, e6, e7, e8, e9, e10, a6, a7, a8, a9, a10, retT, allV]
    · obtain ⟨q1, q2, q3⟩ := hk2 hk
      have wi : IntKind.u64.wrap e.i = (e.i.toNat : Int) := by rw [wrap_u64_in _ (by omega) (by omega)]; omega
      obtain ⟨u6, e6, a6, g6⟩ := num s5 acc e.i.toNat g15 (by omega) (by omega)
      have hres : putB e = acc ++ vput e.i.toNat := by
        have hxx : e.x = [] := by rw [q3]; rfl
        rw [hB, hxx]
        simp [nums, hk, putNs]
      have l2 := keep g15 2 _ rfl
      refine ⟨u6, ?_, g1.trans g6⟩
      rw [hres]
      clear num hA hB vl r1 r2 keep
      generalize ((e.v.toNat : Nat) : Int) = EV at *
      generalize ((e.i.toNat : Nat) : Int) = EI at *
      generalize R (d + 4) = r at *
      have E1 := eqf 1 (by omega)
      have E2 := eqt 2 hk
      simp [-eql_int, nw1, l8, e2, fa, lk2, wk, nw4, bs4, lv4, wv, e5, ad1, hov, lk5, bs5, E1, E2, l2, wi, e6, a6, retT, allV]
    · have hres : putB e = acc := by
        have hxx : e.x = [] := by rw [(hk3 hk).2]; rfl
        rw [hB, hxx]
        simp [nums, hk, putNs]
      refine ⟨s5, ?_, g1.trans g15⟩
      rw [hres]
      clear num hA hB vl r1 r2 keep
      generalize ((e.v.toNat : Nat) : Int) = EV at *
      generalize ((e.i.toNat : Nat) : Int) = EI at *
      generalize R (d + 4) = r at *
      have E1 := eqf 1 (by omega)
      have E2 := eqf 2 (by omega)
      have E4 := eqf 4 (by omega)
      simp [-eql_int, nw1, l8, e2, fa, lk2, wk, nw4, bs4, lv4, wv, e5, ad1, hov, lk5, bs5, E1, E2, E4, retT, allV]
    · obtain ⟨q1, q2, q3⟩ := hk4 hk
      obtain ⟨u6, e6, a6, g6⟩ := num s5 acc e.x.length g15 (by omega) (by omega)
      have hres : putB e = acc ++ vput e.x.length ++ e.x := by
        rw [hB]
        simp [nums, hk, putNs]
      have l7 := keep g15 7 _ rfl
      have l7' := keep g6 7 _ rfl
      have hl : aLenStr (Z (.str e.x)) = some (I .i64 ((e.x.length : Nat) : Int)) := rfl
      have wx : IntKind.u64.wrap ((e.x.length : Nat) : Int) = ((e.x.length : Nat) : Int) := wrap64 _ (by omega)
      have a7 : aBin .add (Z (.str (acc ++ vput e.x.length))) (Z (.str e.x)) = some (Z (.str (acc ++ vput e.x.length ++ e.x))) := str_add _ _ (by have := vput_len e.x.length; simp; omega)
      refine ⟨u6, ?_, g1.trans g6⟩
      rw [hres]
      generalize acc ++ vput e.x.length ++ e.x = A7 at *
      generalize acc ++ vput e.x.length = A6 at *
      have E1 := eqf 1 (by omega)
      have E2 := eqf 2 (by omega)
      have E4 := eqt 4 hk
      generalize ((e.x.length : Nat) : Int) = XL at *
      clear num hA hB vl r1 r2 keep
      generalize ((e.v.toNat : Nat) : Int) = EV at *
      generalize ((e.i.toNat : Nat) : Int) = EI at *
      generalize R (d + 4) = r at *
      simp [-eql_int, nw1, l8, e2, fa, lk2, wk, nw4, bs4, lv4, wv, e5, ad1, hov, lk5, bs5, E1, E2, E4, l7, hl, wx, e6, a6, l7', a7, retT, allV]
end
end Go.Proofs.YtlhbidbdmdcdeaaGreatDoor

/-
  The rows of the laws: what Rows computes, in any store. No conditions but those named in each line.
-/
namespace Go.Proofs.YtlhbidbdmdcdeaaGreatDoor
open Go Go.Abs Go.Abs.F
set_option linter.unusedVariables false

structure RowSt where
  out : List Ent
  there : List Nat
  view : Nat
  id : Nat
  at_ : Nat

def sealB (n : Nat) : Bs := [115, 101, 97, 108, 32] ++ (if n = 0 then [49] else if n = 1 then [57] else [51, 51])

def rowStep (σ : RowSt) (k : Nat) : RowSt :=
  if k % 8 = 7 then { σ with out := σ.out ++ [{ ent0 with k := 3, v := (σ.view + 1 : Nat) }], view := σ.view + 1 }
  else if k % 8 = 6 then { σ with out := σ.out ++ [{ ent0 with k := 4, v := (σ.view : Nat), x := sealB (k / 8 % 3) }] }
  else if 3 < k % 8 ∧ 0 < σ.there.length then
    { σ with out := σ.out ++ [{ ent0 with k := 2, v := (σ.view : Nat), i := (σ.there.getD (k / 8 % σ.there.length) 0 : Nat) }],
             there := σ.there.take (k / 8 % σ.there.length) ++ σ.there.drop (k / 8 % σ.there.length + 1) }
  else { out := σ.out ++ [{ k := 1, v := (σ.view : Nat), i := (σ.id + 1 : Nat), t := (k / 8 % 4 : Nat), f := (σ.at_ : Nat), o := (σ.at_ + 1 + k / 8 % 30 : Nat), u := (k % 4294967296 : Nat), x := [] }],
         there := σ.there ++ [σ.id + 1], view := σ.view, id := σ.id + 1, at_ := σ.at_ + 1 + k / 8 % 30 }

def rowsG (ks : List Nat) : RowSt := ks.foldl rowStep ⟨[], [], 0, 0, 0⟩
def rowK (v : Int) : Nat := (IntKind.u64.wrap v).toNat
def rowsE (vs : List Int) : List Ent := (rowsG ((vs.take 40).map rowK)).out

abbrev I64 (vs : List Int) : List S := vs.map (S.int .i64)
abbrev N64 (vs : List Nat) : List S := vs.map fun n : Nat => S.int .i64 (n : Int)

section
variable {s t : St} {x y : S} {bs cs : Bs} {i : Nat} {l m : List Ent} {e n : Nat} {vs : List S}

theorem aBounds_max {len cap k : Nat} (h : k ≤ cap) : aBounds len cap none (some (I .i64 k)) (some (I .i64 k)) = some (0, k, k) := by
  have e1 : ∀ c, k ≤ c → aBnd (I .i64 k) c = some k := fun c h => by
    have h0 : (0 : Int) ≤ (k : Int) := by omega
    have h1 : (k : Int) ≤ (c : Int) := by omega
    simp [aBnd, h]
  delta aBounds
  dsimp only
  rw [e1 _ h]
  dsimp only
  rw [e1 _ (Nat.le_refl _)]

theorem Ow_cut (h : Ow e s x n vs) (h0 : 0 < n) {j : Nat} (hj : j ≤ n) : ∃ y, aPieceSl e (Z x) none (some (I .i64 j)) (some (I .i64 j)) = some (Z y) ∧ Ow e s y j (vs.take (j * e)) ∧ own y = own x := by
  have hl := h.len
  have hm : j * e ≤ n * e := Nat.mul_le_mul_right _ hj
  rcases h.ow with ⟨rfl, h1⟩ | ⟨c, rows, rfl, h1, _⟩ | ⟨c, rows, cap, rfl, hc, h1, h2, h3⟩
  · omega
  · omega
  · have hy : Ow e s (.sl c 0 j (.known j)) j (vs.take (j * e)) := by
      refine ⟨by rw [List.length_take]; omega, .inr (.inr ⟨c, rows, _, rfl, .inr rfl, h1, by omega, ?_⟩)⟩
      rw [← h3, List.take_take, Nat.min_eq_left hm]
    refine ⟨.sl c 0 j (.known j), ?_, hy, rfl⟩
    rcases hc with rfl | rfl
    · simp only [aPieceSl, if_true, aBounds_max hj]
      simp
    · simp only [aPieceSl, aBounds_max hj]
      simp

theorem Fr_other {s0 : St} (h : Fr e s0 s x n vs) (g : Gr s0 t) (hz : s.size ≤ t.size) (hk : ∀ c, own x = some c → t.get c = s.get c) : Fr e s0 t x n vs :=
  ⟨g, h.ow.keep hk, fun c hc => ⟨(h.new c hc).1, Nat.lt_of_lt_of_le (h.new c hc).2 hz⟩⟩

theorem FE.lit' {s0 : St} {e : Ent} (h : FE s0 s x l) (hl : l.length ≤ 1000000) :
    ∃ x' t s', aNew s (nSlice 1 (aFill [.int .i64 0, .int .i64 0, .int .i64 0, .int .i64 0, .int .i64 0, .int .i64 0, .int .u32 0, .str []] [(0, 8, AE e)])) = some (Z (.sl s.size 0 1 (.known 1)), s') ∧ aAppend 8 72 (Z x) (Z (.sl s.size 0 1 (.known 1))) s' = some (Z x', t) ∧ FE s0 t x' (l ++ [e]) ∧ s.size ≤ t.size ∧
      (∀ b, b < s.size → own x ≠ some b → t.get b = s.get b) ∧ (own x' = none ∨ own x' = own x ∨ ∃ c, own x' = some c ∧ s.size ≤ c) := by
  have L := Fr.lit 8 h.gr.1 (n := 1) (vs := cells cE [e]) (by simp [cE])
  obtain ⟨x', t, e1, f, hz, k, o⟩ := (h.gr' L.gr).append' (by_ := 72) (by omega) L.rd.src (by simp [cE]) (by omega)
  refine ⟨x', t, _, rfl, e1, ?_, Nat.le_trans L.gr.2.1 hz, fun b hb ho => ?_, ?_⟩
  · unfold FE
    rw [cells_append, List.length_append]
    exact f
  · rw [k b (Nat.lt_of_lt_of_le hb L.gr.2.1) ho, L.gr.2.2 b hb]
  · rcases o with h | h | ⟨c, h, h'⟩
    · exact .inl h
    · exact .inr (.inl h)
    · exact .inr (.inr ⟨c, h, Nat.le_trans L.gr.2.1 h'⟩)

/-- Two slices that grow side by side. -/
structure Both (s0 s : St) (o y : S) (l : List Ent) (ns : List Nat) : Prop where
  out : FE s0 s o l
  there : Fr 1 s0 s y ns.length (N64 ns)
  ne : ∀ c, own o = some c → own y ≠ some c

theorem Both.lit {s0 : St} {o : S} {ns : List Nat} {e : Ent} (h : Both s0 s o y l ns) (hl : l.length ≤ 1000000) :
    ∃ x' t s', aNew s (nSlice 1 (aFill [.int .i64 0, .int .i64 0, .int .i64 0, .int .i64 0, .int .i64 0, .int .i64 0, .int .u32 0, .str []] [(0, 8, AE e)])) = some (Z (.sl s.size 0 1 (.known 1)), s') ∧ aAppend 8 72 (Z o) (Z (.sl s.size 0 1 (.known 1))) s' = some (Z x', t) ∧ Both s0 t x' y (l ++ [e]) ns := by
  obtain ⟨x', t, s', e1, e2, f, hz, hk, ho⟩ := FE.lit' (e := e) h.out hl
  refine ⟨x', t, s', e1, e2, f, Fr_other h.there f.gr hz fun c hc => hk c (h.there.new c hc).2 fun hh => h.ne c hh hc, fun c hc hy => ?_⟩
  rcases ho with h1 | h1 | ⟨c', h1, h2⟩
  · rw [h1] at hc; cases hc
  · rw [h1] at hc; exact h.ne c hc hy
  · rw [h1] at hc
    cases hc
    have := (h.there.new c hy).2
    omega

theorem Both.app {s0 : St} {o z : S} {ns ms ks : List Nat} (h : Both s0 s o y l ns) (hy : Fr 1 s0 s x ks.length (N64 ks)) (hox : own x = own y) (hz : aSrc 1 (Z z) s.get = some (ms.length, N64 ms)) (hl : (ks.length + ms.length) * 8 ≤ 140737488355328) :
    ∃ y' t, aAppend 1 8 (Z x) (Z z) s = some (Z y', t) ∧ Both s0 t o y' l (ks ++ ms) := by
  obtain ⟨y', t, e1, f, hzz, hk, ho⟩ := hy.append' (by_ := 8) (by omega) hz (by simp) hl
  refine ⟨y', t, e1, Fr_other h.out f.gr hzz fun c hc => hk c (h.out.new c hc).2 fun hh => h.ne c hc (by rw [← hox]; exact hh), ?_, fun c hc hy' => ?_⟩
  · rw [List.length_append]
    have : N64 (ks ++ ms) = N64 ks ++ N64 ms := by simp [N64]
    rw [this]
    exact f
  · rcases ho with h1 | h1 | ⟨c', h1, h2⟩
    · rw [h1] at hy'; cases hy'
    · rw [h1, hox] at hy'; exact h.ne c hc hy'
    · rw [h1] at hy'
      cases hy'
      have := (h.out.new c hc).2
      omega

theorem rem_nat (k : IntKind) (a b : Nat) (h : 0 < b) : aBin .rem (I k a) (I k b) = some (I k ((a % b : Nat))) := by
  rw [rem_int _ _ _ (by omega)]; rfl
theorem quo_nat (k : IntKind) (a b : Nat) (h : 0 < b) (hw : k.wrap ((a / b : Nat) : Int) = ((a / b : Nat) : Int)) : aBin .quo (I k a) (I k b) = some (I k ((a / b : Nat))) := by
  rw [quo_int _ _ _ (by omega)]
  have : Int.tdiv (a : Int) (b : Int) = ((a / b : Nat) : Int) := rfl
  rw [this, hw]


theorem rowK_eq (v : Int) : IntKind.u64.wrap v = ((rowK v : Nat) : Int) := (Int.toNat_of_nonneg (wrap_u64 v)).symm
theorem rowK_lt (v : Int) : rowK v < 2 ^ 64 := by
  have : IntKind.u64.wrap v < 2 ^ 64 := by
    unfold IntKind.wrap
    simp [IntKind.signed, IntKind.bits]
    omega
  rw [rowK_eq] at this
  omega

/-- What the rows' counters are at most. -/
structure RowOk (σ : RowSt) (n : Nat) : Prop where
  out : σ.out.length = n
  there : σ.there.length ≤ n
  view : σ.view ≤ n
  id : σ.id ≤ n
  at_ : σ.at_ ≤ 30 * n

theorem RowOk.step {σ : RowSt} {n : Nat} (h : RowOk σ n) (k : Nat) : RowOk (rowStep σ k) (n + 1) := by
  obtain ⟨h1, h2, h3, h4, h5⟩ := h
  unfold rowStep
  split
  · exact ⟨by simp [h1], by show σ.there.length ≤ _; omega, by show σ.view + 1 ≤ _; omega, by show σ.id ≤ _; omega, by show σ.at_ ≤ _; omega⟩
  · split
    · exact ⟨by simp [h1], by show σ.there.length ≤ _; omega, by show σ.view ≤ _; omega, by show σ.id ≤ _; omega, by show σ.at_ ≤ _; omega⟩
    · split
      · exact ⟨by simp [h1], by simp; omega, by show σ.view ≤ _; omega, by show σ.id ≤ _; omega, by show σ.at_ ≤ _; omega⟩
      · exact ⟨by simp [h1], by simp; omega, by show σ.view ≤ _; omega, by show σ.id + 1 ≤ _; omega, by show σ.at_ + 1 + k / 8 % 30 ≤ _; have := Nat.mod_lt (k / 8) (show 0 < 30 by decide); omega⟩

abbrev rowV (x o y : S) (σ : RowSt) (n : Nat) : List T := [Z x, Z o, Z y, I .i64 (σ.view : Nat), I .i64 (σ.id : Nat), I .i64 (σ.at_ : Nat), I .i64 (n : Nat)]

theorem rows_step (d : Nat) {s0 : St} {o : S} {σ : RowSt} {n : Nat} {is : List Int} (hx : Rd 1 s x is.length (I64 is)) (h : Both s0 s o y σ.out σ.there) (ok : RowOk σ n) (hn : n < is.length) (hn40 : n < 40) :
    ∃ o' y' t, f27_l1 (R d) 8192 (rowV x o y σ n) s = some (.normal (rowV x o' y' (rowStep σ (rowK is[n])) (n + 1)), t) ∧ Both s0 t o' y' (rowStep σ (rowK is[n])).out (rowStep σ (rowK is[n])).there := by
  have hll := hx.lens
  obtain ⟨p, ix, ld⟩ := hx.at1 (j := n) (i := (n : Int)) (v := .int .i64 is[n]) rfl (by simp [I64, hn])
  have hK := rowK_eq is[n]
  have hKl := rowK_lt is[n]
  generalize rowK is[n] = K at *
  generalize is[n] = v at *
  obtain ⟨ok1, ok2, ok3, ok4, ok5⟩ := ok
  obtain ⟨out, there, view, id, at_⟩ := σ
  simp only at ok1 ok2 ok3 ok4 ok5 h
  have c0 : (n : Int) < (is.length : Int) := by omega
  have c1 : (n : Int) < 40 := by omega
  have w1 : IntKind.i64.wrap ((n : Int) + 1) = ((n + 1 : Nat) : Int) := by rw [wrap_in _ (by omega) (by omega)]; omega
  have r8 : aBin .rem (I .u64 (K : Nat)) (I .u64 8) = some (I .u64 ((K % 8 : Nat))) := rem_nat .u64 K 8 (by decide)
  have q8 : aBin .quo (I .u64 (K : Nat)) (I .u64 8) = some (I .u64 ((K / 8 : Nat))) := quo_nat .u64 K 8 (by decide) (wrap64 _ (by omega))
  have e7 : decide (((K % 8 : Nat) : Int) = 7) = decide (K % 8 = 7) := decide_eq_decide.2 (by omega)
  have e6 : decide (((K % 8 : Nat) : Int) = 6) = decide (K % 8 = 6) := decide_eq_decide.2 (by omega)
  have e3 : decide (3 < ((K % 8 : Nat) : Int)) = decide (3 < K % 8) := decide_eq_decide.2 (by omega)
  generalize ((K % 8 : Nat) : Int) = C8 at *
  by_cases k7 : K % 8 = 7
  · have hs : rowStep ⟨out, there, view, id, at_⟩ K = ⟨out ++ [{ ent0 with k := 3, v := (view + 1 : Nat) }], there, view + 1, id, at_⟩ := by unfold rowStep; rw [if_pos k7]
    rw [hs]
    have w2 : IntKind.i64.wrap ((view : Int) + 1) = ((view + 1 : Nat) : Int) := by rw [wrap_in _ (by omega) (by omega)]; omega
    have ag : asAggT (aFill [.int .i64 0, .int .i64 0, .int .i64 0, .int .i64 0, .int .i64 0, .int .i64 0, .int .u32 0, .str []] [(0, 1, (I .i64 3)), (1, 1, I .i64 ((view + 1 : Nat) : Int))]) = some (AE { ent0 with k := 3, v := (view + 1 : Nat) }) := rfl
    obtain ⟨o', t, s', nw, ap, b⟩ := Both.lit (e := { ent0 with k := 3, v := (view + 1 : Nat) }) h (by omega)
    refine ⟨o', y, t, ?_, b⟩
    rw [decide_eq_true k7] at e7
    unfold f27_l1 rowV
    generalize ((view + 1 : Nat) : Int) = V1 at *
    generalize ((n + 1 : Nat) : Int) = N1 at *
    generalize ((is.length : Nat) : Int) = L at *
    generalize ((K : Nat) : Int) = KK at *
    simp [hll, c0, c1, ix, ld, hK, r8, e7, w2, ag, nw, ap, w1]
  · rw [decide_eq_false k7] at e7
    by_cases k6 : K % 8 = 6
    · have hs : rowStep ⟨out, there, view, id, at_⟩ K = ⟨out ++ [{ ent0 with k := 4, v := (view : Nat), x := sealB (K / 8 % 3) }], there, view, id, at_⟩ := by unfold rowStep; rw [if_neg k7, if_pos k6]
      rw [hs]
      rw [decide_eq_true k6] at e6
      obtain ⟨s3, hs3⟩ : ∃ s3, s3 = s.push (.cells true [.str [49], .str [57], .str [51, 51]]) := ⟨_, rfl⟩
      have nw0 : aNew s (nSlice 3 (aFill [.str [], .str [], .str []] [(0, 1, (Z (.str [49]))), (1, 1, (Z (.str [57]))), (2, 1, (Z (.str [51, 51])))])) = some (Z (.sl s.size 0 3 (.known 3)), s3) := by rw [hs3]; rfl
      have g3 : Gr s s3 := by rw [hs3]; exact Gr.push h.out.gr.1 _
      have b3 : s3.get s.size = some (.cells true [.str [49], .str [57], .str [51, 51]]) := by rw [hs3]; exact St.get_push_same _ _
      have hb3 : Both s0 s3 o y out there := ⟨h.out.gr' g3, h.there.gr' g3, h.ne⟩
      have r3 : aBin .rem (I .u64 ((K / 8 : Nat))) (I .u64 3) = some (I .u64 ((K / 8 % 3 : Nat))) := rem_nat .u64 (K / 8) 3 (by decide)
      have hj : K / 8 % 3 < 3 := Nat.mod_lt _ (by decide)
      obtain ⟨w, z, ix2, ld2, ad⟩ : ∃ w z, aIndexSl 1 (Z (.sl s.size 0 3 (.known 3))) (I .u64 ((K / 8 % 3 : Nat))) = some w ∧ aLoad1 w s3.get = some (Z (.str z)) ∧ aBin .add (Z (.str [115, 101, 97, 108, 32])) (Z (.str z)) = some (Z (.str (sealB (K / 8 % 3)))) := by
        generalize K / 8 % 3 = J at hj
        rcases (by omega : J = 0 ∨ J = 1 ∨ J = 2) with rfl | rfl | rfl
        · exact ⟨_, _, rfl, aLoad1_of b3 rfl, str_add _ _ (by decide)⟩
        · exact ⟨_, _, rfl, aLoad1_of b3 rfl, str_add _ _ (by decide)⟩
        · exact ⟨_, _, rfl, aLoad1_of b3 rfl, str_add _ _ (by decide)⟩
      have ag : asAggT (aFill [.int .i64 0, .int .i64 0, .int .i64 0, .int .i64 0, .int .i64 0, .int .i64 0, .int .u32 0, .str []] [(0, 1, (I .i64 4)), (1, 1, I .i64 ((view : Nat) : Int)), (7, 1, Z (.str (sealB (K / 8 % 3))))]) = some (AE { ent0 with k := 4, v := (view : Nat), x := sealB (K / 8 % 3) }) := rfl
      obtain ⟨o', t, s', nw, ap, b⟩ := Both.lit (e := { ent0 with k := 4, v := (view : Nat), x := sealB (K / 8 % 3) }) hb3 (by omega)
      refine ⟨o', y, t, ?_, b⟩
      unfold f27_l1 rowV
      generalize sealB (K / 8 % 3) = SB at *
      generalize ((K / 8 % 3 : Nat) : Int) = K83 at *
      generalize ((K / 8 : Nat) : Int) = K8 at *
      generalize ((K : Nat) : Int) = KK at *
      generalize ((n + 1 : Nat) : Int) = N1 at *
      generalize ((is.length : Nat) : Int) = L at *
      simp [hll, c0, c1, ix, ld, hK, r8, e7, e6, nw0, q8, r3, ix2, ld2, ad, ag, nw, ap, w1]
    · rw [decide_eq_false k6] at e6
      have tl := h.there.rd.lens
      by_cases k3 : 3 < K % 8 ∧ 0 < there.length
      · obtain ⟨k3, kt⟩ := k3
        rw [decide_eq_true k3] at e3
        have hs : rowStep ⟨out, there, view, id, at_⟩ K = ⟨out ++ [{ ent0 with k := 2, v := (view : Nat), i := (there.getD (K / 8 % there.length) 0 : Nat) }], there.take (K / 8 % there.length) ++ there.drop (K / 8 % there.length + 1), view, id, at_⟩ := by
          unfold rowStep; rw [if_neg k7, if_neg k6, if_pos ⟨k3, kt⟩]
        rw [hs]
        have hj : K / 8 % there.length < there.length := Nat.mod_lt _ kt
        have w2 : IntKind.u64.wrap ((there.length : Nat) : Int) = ((there.length : Nat) : Int) := wrap64 _ (by omega)
        have r3 : aBin .rem (I .u64 ((K / 8 : Nat))) (I .u64 (there.length : Nat)) = some (I .u64 ((K / 8 % there.length : Nat))) := rem_nat .u64 (K / 8) there.length kt
        generalize K / 8 % there.length = J at *
        have w3 : IntKind.i64.wrap ((J : Nat) : Int) = ((J : Nat) : Int) := wrapi _ (by omega)
        have w4 : IntKind.i64.wrap ((J : Int) + 1) = ((J + 1 : Nat) : Int) := by rw [wrap_in _ (by omega) (by omega)]; omega
        have g0 : decide (0 < ((there.length : Nat) : Int)) = true := decide_eq_true (by omega)
        obtain ⟨p2, ix2, ld2⟩ := h.there.rd.at1 (j := J) (i := (J : Int)) (v := .int .i64 ((there.getD J 0 : Nat) : Int)) rfl (by simp [N64, hj])
        have ag : asAggT (aFill [.int .i64 0, .int .i64 0, .int .i64 0, .int .i64 0, .int .i64 0, .int .i64 0, .int .u32 0, .str []] [(0, 1, (I .i64 2)), (1, 1, I .i64 ((view : Nat) : Int)), (2, 1, I .i64 ((there.getD J 0 : Nat) : Int))]) = some (AE { ent0 with k := 2, v := (view : Nat), i := (there.getD J 0 : Nat) }) := rfl
        obtain ⟨o', t, s', nw, ap, b⟩ := Both.lit (e := { ent0 with k := 2, v := (view : Nat), i := (there.getD J 0 : Nat) }) h (by omega)
        obtain ⟨y1, p1, ow1, oy1⟩ := Ow_cut b.there.ow kt (j := J) (by omega)
        obtain ⟨y2, p2', rd2, _⟩ := b.there.rd.onfrom (lo := J + 1) (by omega)
        have ht : N64 (there.take J) = (N64 there).take (J * 1) := by simp [N64, List.map_take]
        have hd : N64 (there.drop (J + 1)) = (N64 there).drop ((J + 1) * 1) := by simp [N64, List.map_drop]
        have lt : (there.take J).length = J := by rw [List.length_take]; omega
        have ld' : (there.drop (J + 1)).length = there.length - (J + 1) := by rw [List.length_drop]
        obtain ⟨y', t2, ap2, b2⟩ := b.app (x := y1) (z := y2) (ks := there.take J) (ms := there.drop (J + 1)) ⟨b.there.gr, by rw [lt, ht]; exact ow1, fun c hc => b.there.new c (by rw [← oy1]; exact hc)⟩ oy1 (by rw [ld', hd]; exact rd2.src) (by rw [lt, ld']; omega)
        refine ⟨o', y', t2, ?_, b2⟩
        unfold f27_l1 rowV
        generalize ((there.getD J 0 : Nat) : Int) = TJ at *
        generalize ((J + 1 : Nat) : Int) = J1 at *
        generalize ((J : Nat) : Int) = JJ at *
        generalize ((there.length : Nat) : Int) = TL at *
        generalize ((K / 8 : Nat) : Int) = K8 at *
        generalize ((K : Nat) : Int) = KK at *
        generalize ((n + 1 : Nat) : Int) = N1 at *
        generalize ((is.length : Nat) : Int) = L at *
        simp [hll, c0, c1, ix, ld, hK, r8, e7, e6, e3, tl, g0, q8, w2, r3, w3, ix2, ld2, ag, nw, ap, p1, w4, p2', ap2, w1]
      · have hs : rowStep ⟨out, there, view, id, at_⟩ K = ⟨out ++ [{ k := 1, v := (view : Nat), i := (id + 1 : Nat), t := (K / 8 % 4 : Nat), f := (at_ : Nat), o := (at_ + 1 + K / 8 % 30 : Nat), u := (K % 4294967296 : Nat), x := [] }], there ++ [id + 1], view, id + 1, at_ + 1 + K / 8 % 30⟩ := by
          unfold rowStep; rw [if_neg k7, if_neg k6, if_neg k3]
        rw [hs]
        have w2 : IntKind.i64.wrap ((id : Int) + 1) = ((id + 1 : Nat) : Int) := by rw [wrap_in _ (by omega) (by omega)]; omega
        have w3 : IntKind.i64.wrap ((at_ : Int) + 1) = ((at_ + 1 : Nat) : Int) := by rw [wrap_in _ (by omega) (by omega)]; omega
        have r3 : aBin .rem (I .u64 ((K / 8 : Nat))) (I .u64 30) = some (I .u64 ((K / 8 % 30 : Nat))) := rem_nat .u64 (K / 8) 30 (by decide)
        have r4 : aBin .rem (I .u64 ((K / 8 : Nat))) (I .u64 4) = some (I .u64 ((K / 8 % 4 : Nat))) := rem_nat .u64 (K / 8) 4 (by decide)
        have l3 : K / 8 % 30 < 30 := Nat.mod_lt _ (by decide)
        have l4 : K / 8 % 4 < 4 := Nat.mod_lt _ (by decide)
        have w4 : IntKind.i64.wrap ((K / 8 % 30 : Nat) : Int) = ((K / 8 % 30 : Nat) : Int) := wrapi _ (by omega)
        have w5 : IntKind.i64.wrap ((K / 8 % 4 : Nat) : Int) = ((K / 8 % 4 : Nat) : Int) := wrapi _ (by omega)
        have w6 : IntKind.i64.wrap (((at_ + 1 : Nat) : Int) + ((K / 8 % 30 : Nat) : Int)) = ((at_ + 1 + K / 8 % 30 : Nat) : Int) := by rw [wrap_in _ (by omega) (by omega)]; omega
        have w7 : IntKind.u32.wrap ((K : Nat) : Int) = ((K % 4294967296 : Nat) : Int) := wrap32 K
        have ag : asAggT (aFill [.int .i64 0, .int .i64 0, .int .i64 0, .int .i64 0, .int .i64 0, .int .i64 0, .int .u32 0, .str []] [(0, 1, (I .i64 1)), (1, 1, I .i64 ((view : Nat) : Int)), (2, 1, I .i64 ((id + 1 : Nat) : Int)), (3, 1, I .i64 ((K / 8 % 4 : Nat) : Int)), (4, 1, I .i64 ((at_ : Nat) : Int)), (5, 1, I .i64 ((at_ + 1 + K / 8 % 30 : Nat) : Int)), (6, 1, I .u32 ((K % 4294967296 : Nat) : Int))]) =
          some (AE { k := 1, v := (view : Nat), i := (id + 1 : Nat), t := (K / 8 % 4 : Nat), f := (at_ : Nat), o := (at_ + 1 + K / 8 % 30 : Nat), u := (K % 4294967296 : Nat), x := [] }) := rfl
        obtain ⟨o', t, s', nw, ap, b⟩ := Both.lit (e := { k := 1, v := (view : Nat), i := (id + 1 : Nat), t := (K / 8 % 4 : Nat), f := (at_ : Nat), o := (at_ + 1 + K / 8 % 30 : Nat), u := (K % 4294967296 : Nat), x := [] }) h (by omega)
        have L := Fr.lit 1 b.out.gr.1 (n := 1) (vs := N64 [id + 1]) rfl
        have nw2 : aNew t (nSlice 1 (aFill [.int .i64 0] [(0, 1, I .i64 ((id + 1 : Nat) : Int))])) = some (Z (.sl t.size 0 1 (.known 1)), t.push (.cells true (N64 [id + 1]))) := rfl
        obtain ⟨t1, ht1⟩ : ∃ t1, t1 = t.push (.cells true (N64 [id + 1])) := ⟨_, rfl⟩
        rw [← ht1] at L nw2
        have b1 : Both s0 t1 o' y (out ++ [{ k := 1, v := (view : Nat), i := (id + 1 : Nat), t := (K / 8 % 4 : Nat), f := (at_ : Nat), o := (at_ + 1 + K / 8 % 30 : Nat), u := (K % 4294967296 : Nat), x := [] }]) there := ⟨b.out.gr' L.gr, b.there.gr' L.gr, b.ne⟩
        obtain ⟨y', t2, ap2, b2⟩ := b1.app (x := y) (z := .sl t.size 0 1 (.known 1)) (ks := there) (ms := [id + 1]) b1.there rfl L.rd.src (by simp; omega)
        refine ⟨o', y', t2, ?_, b2⟩
        have g3 : (decide (3 < C8) = false) ∨ (decide (3 < C8) = true ∧ decide (0 < ((there.length : Nat) : Int)) = false) := by
          by_cases hk : 3 < K % 8
          · exact .inr ⟨by rw [e3]; exact decide_eq_true hk, decide_eq_false (by omega)⟩
          · exact .inl (by rw [e3]; exact decide_eq_false hk)
        unfold f27_l1 rowV
        generalize ((id + 1 : Nat) : Int) = ID1 at *
        generalize ((at_ + 1 + K / 8 % 30 : Nat) : Int) = AT2 at *
        generalize ((at_ + 1 : Nat) : Int) = AT1 at *
        generalize ((K / 8 % 30 : Nat) : Int) = K30 at *
        generalize ((K / 8 % 4 : Nat) : Int) = K4 at *
        generalize ((K % 4294967296 : Nat) : Int) = K32 at *
        generalize ((there.length : Nat) : Int) = TL at *
        generalize ((K / 8 : Nat) : Int) = K8 at *
        generalize ((K : Nat) : Int) = KK at *
        generalize ((n + 1 : Nat) : Int) = N1 at *
        generalize ((is.length : Nat) : Int) = L' at *
        clear e3
        rcases g3 with g3 | ⟨g3, g4⟩
        · simp [hll, c0, c1, ix, ld, hK, r8, e7, e6, g3, q8, r3, r4, w2, w3, w4, w5, w6, w7, ag, nw, ap, nw2, ap2, w1]
        · simp [hll, c0, c1, ix, ld, hK, r8, e7, e6, g3, tl, g4, q8, r3, r4, w2, w3, w4, w5, w6, w7, ag, nw, ap, nw2, ap2, w1]

theorem rowsG_succ (ks : List Nat) (k : Nat) : rowsG (ks ++ [k]) = rowStep (rowsG ks) k := by simp [rowsG]

theorem rows_run (d : Nat) (wf : s.wf) {is : List Int} (hx : Rd 1 s x is.length (I64 is)) (hox : ∀ c, own x = some c → c < s.size) : ∃ o t, R (d + 1) 27 [Z x] s = some (Z o, t) ∧ FE s t o (rowsE is) := by
  rw [f27_run]
  unfold f27
  obtain ⟨j, τ, lp, o, hj, f⟩ := loops_inv (f := f27_l1 (R d) 8192) (fun q v u => ∃ (n : Nat) (o y : S), q + n = min is.length 40 ∧ v = rowV x o y (rowsG ((is.take n).map rowK)) n ∧ Both s u o y (rowsG ((is.take n).map rowK)).out (rowsG ((is.take n).map rowK)).there ∧ RowOk (rowsG ((is.take n).map rowK)) n)
    (fun j u => ∃ o, j = .exit 0 [Z o] ∧ FE s u o (rowsE is)) (by
    rintro q v u ⟨n, o, y, hq, rfl, b, ok⟩
    by_cases hn : n < is.length ∧ n < 40
    · left
      have htk : (is.take (n + 1)).map rowK = (is.take n).map rowK ++ [rowK (is[n]'hn.1)] := by
        rw [List.take_add_one, List.getElem?_eq_getElem hn.1, Option.toList_some, List.map_append]
        rfl
      have hr : Rd 1 u x is.length (I64 is) := hx.gr hox b.out.gr
      obtain ⟨o', y', t, e, b'⟩ := rows_step d hr b ok hn.1 hn.2
      have ok' := ok.step (rowK (is[n]'hn.1))
      rw [← rowsG_succ, ← htk] at e b' ok'
      exact ⟨_, t, q - 1, e, by omega, n + 1, o', y', by omega, rfl, b', ok'⟩
    · right
      have hll := hx.lens
      have htk : is.take n = is.take 40 := by
        rcases Nat.lt_or_ge n is.length with h1 | h1
        · obtain rfl : n = 40 := by omega
          rfl
        · rw [List.take_of_length_le h1, List.take_of_length_le (by omega)]
      refine ⟨.exit 0 [Z o], u, ?_, (fun v hv => by cases hv), o, rfl, by unfold rowsE; rw [← htk]; exact b.out⟩
      unfold f27_l1 rowV
      by_cases h1 : n < is.length
      · have c0 : decide ((n : Int) < (is.length : Int)) = true := decide_eq_true (by omega)
        have c1 : decide ((n : Int) < 40) = false := decide_eq_false (by omega)
        generalize ((is.length : Nat) : Int) = L at *
        generalize ((n : Nat) : Int) = NN at *
        simp [hll, c0, c1]
      · have c0 : decide ((n : Int) < (is.length : Int)) = false := decide_eq_false (by omega)
        generalize ((is.length : Nat) : Int) = L at *
        generalize ((n : Nat) : Int) = NN at *
        simp [hll, c0, gtt]) 8192 (min is.length 40) [Z x, Z .nils, Z .nils, I .i64 0, I .i64 0, I .i64 0, I .i64 0] s
    ⟨0, .nils, .nils, by omega, rfl, ⟨Fr.nil 8 wf, Fr.nil 1 wf, fun c hc => by cases hc⟩, ⟨rfl, Nat.le_refl _, Nat.le_refl _, Nat.le_refl _, Nat.le_refl _⟩⟩ (by omega)
  subst hj
  exact ⟨o, τ, by simp [lp], f⟩
end

/-! ### Rows may be -/

theorem seal_ok : ∀ n, n < 3 → (parseP (sealB n)).2.1 = 0 := by decide +kernel

structure RowMay (σ : RowSt) (n : Nat) : Prop where
  ok : RowOk σ n
  may : σ.out.all mayE = true
  wf : ∀ e ∈ σ.out, EWf e
  there : ∀ k ∈ σ.there, 1 ≤ k ∧ k ≤ n

theorem may3 (v : Nat) (h : 0 < v) (k : v ≤ 1000) : mayE { ent0 with k := 3, v := (v : Nat) } = true := by
  unfold mayE
  rw [if_neg (by simp only; omega)]
  simp [ent0]
  omega
theorem may4 (v n : Nat) (k : v ≤ 1000) (hn : n < 3) : mayE { ent0 with k := 4, v := (v : Nat), x := sealB n } = true := by
  unfold mayE
  rw [if_neg (by simp only; omega)]
  have h1 := seal_ok n hn
  have h2 : (sealB n).length ≤ 300 := by unfold sealB; split <;> (try split) <;> simp
  simp [ent0, h1, h2]
theorem may2 (v i : Nat) (k : v ≤ 1000) (h1 : 1 ≤ i) (h2 : i ≤ 1000) : mayE { ent0 with k := 2, v := (v : Nat), i := (i : Nat) } = true := by
  unfold mayE
  rw [if_neg (by simp only; omega)]
  simp [ent0, idOk]
  omega
theorem may1 (v i t f o u : Nat) (k : v ≤ 1000) (h1 : 1 ≤ i) (h2 : i ≤ 1000) (h3 : t < 4) (h4 : f < o) (h5 : o ≤ 100000) : mayE { k := 1, v := (v : Nat), i := (i : Nat), t := (t : Nat), f := (f : Nat), o := (o : Nat), u := (u : Nat), x := [] } = true := by
  unfold mayE
  rw [if_neg (by simp only; omega)]
  simp [idOk]
  omega

theorem RowMay.step {σ : RowSt} {n : Nat} (h : RowMay σ n) (hn : n < 40) (k : Nat) : RowMay (rowStep σ k) (n + 1) := by
  have ok := h.ok.step k
  obtain ⟨⟨h1, h2, h3, h4, h5⟩, may, wf, there⟩ := h
  have all : ∀ {l : List Ent} {e : Ent}, l.all mayE = true → mayE e = true → (l ++ [e]).all mayE = true := fun a b => by simp only [List.all_append, a, List.all_cons, b, List.all_nil]; rfl
  have wfs : ∀ {l : List Ent} {e : Ent}, (∀ x ∈ l, EWf x) → EWf e → ∀ x ∈ l ++ [e], EWf x := fun a b x hx => by
    rcases List.mem_append.1 hx with h | h
    · exact a x h
    · rw [List.mem_singleton.1 h]; exact b
  have main : (rowStep σ k).out.all mayE = true ∧ (∀ e ∈ (rowStep σ k).out, EWf e) ∧ ∀ i ∈ (rowStep σ k).there, 1 ≤ i ∧ i ≤ n + 1 := by
   unfold rowStep
   split
   · exact ⟨all may (may3 _ (by omega) (by omega)), wfs wf ⟨by simp [ent0], by simp [ent0]⟩, fun x hx => by have := there x hx; omega⟩
   · split
     · exact ⟨all may (may4 _ _ (by omega) (Nat.mod_lt _ (by decide))), wfs wf ⟨by simp [ent0], by simp [ent0]⟩, fun x hx => by have := there x hx; omega⟩
     · split
       · rename_i hc
         have hj : k / 8 % σ.there.length < σ.there.length := Nat.mod_lt _ hc.2
         have hm := there _ (List.getElem_mem hj)
         refine ⟨all may (may2 _ _ (by omega) ?_ ?_), wfs wf ⟨by simp [ent0], by simp [ent0]⟩, fun x hx => ?_⟩
         · rw [List.getD_eq_getElem?_getD, List.getElem?_eq_getElem hj, Option.getD_some]; exact hm.1
         · rw [List.getD_eq_getElem?_getD, List.getElem?_eq_getElem hj, Option.getD_some]; omega
         · have : x ∈ σ.there := by
             rcases List.mem_append.1 hx with h | h
             · exact List.mem_of_mem_take h
             · exact List.mem_of_mem_drop h
           have := there x this
           omega
       · have l3 : k / 8 % 30 < 30 := Nat.mod_lt _ (by decide)
         refine ⟨all may (may1 _ _ _ _ _ _ (by omega) (by omega) (by omega) (Nat.mod_lt _ (by decide)) (by omega) (by omega)), wfs wf ⟨by simp only; omega, by simp only; omega⟩, fun x hx => ?_⟩
         rcases List.mem_append.1 hx with h | h
         · have := there x h; omega
         · rw [List.mem_singleton.1 h]; omega
  exact ⟨ok, main.1, main.2.1, main.2.2⟩

theorem rowsG_may : ∀ (ks : List Nat), ks.length ≤ 40 → RowMay (rowsG ks) ks.length := by
  suffices ∀ n (ks : List Nat), ks.length = n → n ≤ 40 → RowMay (rowsG ks) n from fun ks h => this _ ks rfl h
  intro n
  induction n with
  | zero =>
    intro ks h _
    obtain rfl := List.eq_nil_of_length_eq_zero h
    exact ⟨⟨rfl, Nat.le_refl _, Nat.le_refl _, Nat.le_refl _, Nat.le_refl _⟩, rfl, (fun _ h => by cases h), (fun _ h => by cases h)⟩
  | succ n ih =>
    intro ks h hn
    have hne : ks ≠ [] := fun e => by rw [e] at h; cases h
    rw [← List.dropLast_concat_getLast hne, rowsG_succ]
    exact (ih ks.dropLast (by rw [List.length_dropLast]; omega) (by omega)).step (by omega) _

theorem rowStep_x {σ : RowSt} (h : ∀ e ∈ σ.out, e.x.length ≤ 10) (k : Nat) : ∀ e ∈ (rowStep σ k).out, e.x.length ≤ 10 := by
  have add : ∀ {l : List Ent} {e : Ent}, (∀ x ∈ l, x.x.length ≤ 10) → e.x.length ≤ 10 → ∀ x ∈ l ++ [e], x.x.length ≤ 10 := fun a b x hx => by
    rcases List.mem_append.1 hx with h | h
    · exact a x h
    · rw [List.mem_singleton.1 h]; exact b
  unfold rowStep
  split
  · exact add h (by simp [ent0])
  · split
    · exact add h (by unfold sealB; simp only; split <;> (try split) <;> simp)
    · split
      · exact add h (by simp [ent0])
      · exact add h (by simp)

theorem rowsG_x (ks : List Nat) : ∀ e ∈ (rowsG ks).out, e.x.length ≤ 10 := by
  unfold rowsG
  suffices ∀ (ks : List Nat) σ, (∀ e ∈ σ.out, e.x.length ≤ 10) → ∀ e ∈ (ks.foldl rowStep σ).out, e.x.length ≤ 10 from this ks _ (fun e h => by cases h)
  intro ks
  induction ks with
  | nil => intro σ h; exact h
  | cons k r ih => intro σ h; exact ih _ (rowStep_x h k)

theorem framesB_len' : ∀ l : List Ent, (∀ e ∈ l, e.x.length ≤ 10) → (framesB l).length ≤ 92 * l.length
  | [], _ => by simp [framesB]
  | e :: r, h => by
    have h1 := framesB_len' r fun x hx => h x (by simp [hx])
    have h2 : e.x.length ≤ 10 := h e (by simp)
    have h3 := vput_len e.v.toNat
    have h4 := putNs_len (nums e)
    have h5 := nums_len e
    have h6 := wrapB_len (putB e)
    have h7 : (putB e).length ≤ 77 := by simp [putB]; omega
    simp [framesB]
    omega

theorem rowsE_len (vs : List Int) : (framesB (rowsE vs)).length ≤ 3680 := by
  have h1 := framesB_len' (rowsE vs) (rowsG_x _)
  have h2 : (rowsE vs).length ≤ 40 := by
    have hl : ((vs.take 40).map rowK).length ≤ 40 := by simp; omega
    have h := rowsG_may _ hl
    unfold rowsE
    rw [h.ok.out]
    exact hl
  omega

theorem rowsE_may (vs : List Int) : (rowsE vs).all mayE = true ∧ (∀ e ∈ rowsE vs, EWf e) ∧ (rowsE vs).length ≤ 40 := by
  have hl : ((vs.take 40).map rowK).length ≤ 40 := by simp; omega
  have h := rowsG_may _ hl
  exact ⟨h.may, h.wf, by unfold rowsE; rw [h.ok.out]; exact hl⟩
end Go.Proofs.YtlhbidbdmdcdeaaGreatDoor

/-
  LogTorn: what stands whole in a torn row is read. No conditions but those named in each line.
-/
namespace Go.Proofs.YtlhbidbdmdcdeaaGreatDoor
open Go Go.Abs Go.Abs.F
set_option linter.unusedVariables false

theorem torn_cut : ∀ (l : List Ent) (k : Nat), k ≤ (framesB l).length → ∃ j post, (framesB l).take k = framesB (l.take j) ++ post ∧ ((∃ hj : j < l.length, ∃ more, more ≠ [] ∧ post ++ more = wrapB (putB l[j])) ∨ (j = l.length ∧ post = []))
  | [], k, h => ⟨0, [], by simp [framesB], .inr ⟨rfl, rfl⟩⟩
  | e :: r, k, h => by
    by_cases hk : (wrapB (putB e)).length ≤ k
    · obtain ⟨j, post, h1, h2⟩ := torn_cut r (k - (wrapB (putB e)).length) (by simp [framesB] at h; omega)
      refine ⟨j + 1, post, ?_, ?_⟩
      · simp only [framesB, List.take_succ_cons]
        rw [List.take_append, List.take_of_length_le hk, h1, List.append_assoc]
      · rcases h2 with ⟨hj, m, h3, h4⟩ | ⟨h3, h4⟩
        · exact .inl ⟨by simpa using hj, m, h3, by simpa using h4⟩
        · exact .inr ⟨by simp [h3], h4⟩
    · refine ⟨0, (wrapB (putB e)).take k, ?_, .inl ⟨by simp, (wrapB (putB e)).drop k, fun h0 => ?_, by simp [List.take_append_drop]⟩⟩
      · simp only [framesB, List.take_zero, List.nil_append]
        rw [List.take_append_of_le_length (by omega)]
      · have := congrArg List.length h0
        rw [List.length_drop] at this
        simp at this
        omega

theorem wrapB_le (p : Bs) : p.length ≤ (wrapB p).length := by simp [wrapB]; omega

theorem torn_law {l : List Ent} (hm : l.all mayE = true) (hw : ∀ e ∈ l, EWf e) (hl : l.length ≤ 2000) {k : Nat} (hk : k ≤ (framesB l).length) :
    ∃ j, j ≤ l.length ∧ readP ((framesB l).take k) = (l.take j, (framesB (l.take j)).length) ∧ (framesB (l.take j)).length ≤ k ∧ (∀ hj : j < l.length, k < (framesB (l.take j)).length + (wrapB (putB l[j])).length) ∧ (j = l.length → k = (framesB l).length) := by
  obtain ⟨j, post, h1, h2⟩ := torn_cut l k hk
  have hlen : k = (framesB (l.take j)).length + post.length := by
    have := congrArg List.length h1
    rw [List.length_take, List.length_append] at this
    omega
  have hjl : j ≤ l.length := by rcases h2 with ⟨hj, _⟩ | ⟨hj, _⟩ <;> omega
  have hr := readP_frames (bs := (framesB l).take k) (l := l.take j) (post := post) (by rw [List.length_take]; omega) (all_take j hm) (fun e he => hw e (List.mem_of_mem_take he)) h1
  have hno : openB ((framesB l).take k) (framesB (l.take j)).length = none := by
    cases ho : openB ((framesB l).take k) (framesB (l.take j)).length with
    | none => rfl
    | some pe =>
      obtain ⟨p, e⟩ := pe
      exfalso
      obtain ⟨he1, he2, post', hp⟩ := openB_back ho
      rw [h1, List.drop_left] at hp
      rcases h2 with ⟨hj, more, hne, hq⟩ | ⟨_, rfl⟩
      · rw [hp] at hq
        have hme : mayE l[j] = true := by
          rw [List.all_eq_true] at hm
          exact hm _ (List.getElem_mem hj)
        have hql := mayE_len hme
        have hwl := wrapB_len (putB l[j])
        have h3 := congrArg List.length hq
        rw [List.length_append, List.length_append] at h3
        have := wrapB_le p
        have hf := wrapB_free (p := p) (q := putB l[j]) (r := post' ++ more) (r' := []) (by rw [List.append_nil, ← hq, List.append_assoc]) (by omega) (by omega)
        exact hne (List.append_eq_nil_iff.1 hf.2).2
      · have := congrArg List.length hp
        rw [List.length_append] at this
        have h4 : (wrapB p).length = 0 := by simp at this; omega
        simp [wrapB, four] at h4
  rw [readL_none hno] at hr
  refine ⟨j, hjl, hr, by omega, fun hj => ?_, fun hj => ?_⟩
  · rcases h2 with ⟨_, more, hne, hq⟩ | ⟨h, _⟩
    · rw [← hq, List.length_append]
      have : 0 < more.length := List.length_pos_iff.2 hne
      omega
    · omega
  · rcases h2 with ⟨h, _⟩ | ⟨_, hp⟩
    · omega
    · rw [hp] at hlen
      rw [hj, List.take_length] at hlen
      simpa using hlen

section
variable {s t : St} {x y : S} {bs cs : Bs} {i : Nat} {l m : List Ent}

theorem meetP_take (l : List Ent) (k : Nat) : meetP (l.take k) l = (l.take k).length := by
  induction l generalizing k with
  | nil => simp [meetP]
  | cons e r ih => cases k with
    | zero => simp [meetP]
    | succ k =>
      rw [List.take_succ_cons]
      show (if e = e then _ else _) = _
      rw [if_pos rfl, ih]
      rfl

theorem allP_may (hm : l.all mayE = true) (hl : l.length ≤ 2000) : allP l = (framesB l, 0) := by unfold allP; rw [if_pos hm, if_pos hl]

theorem RE_upto (h : RE s x l) {k : Nat} (hk : k ≤ l.length) : ∃ y, aPieceSl 8 (Z x) none (some (I .i64 k)) none = some (Z y) ∧ RE s y (l.take k) ∧ (own y = none ∨ own y = own x) := by
  obtain ⟨y, a, b, c⟩ := Rd.upto h hk
  refine ⟨y, a, ?_, c⟩
  rw [cells_take cE_len] at b
  have : (l.take k).length = k := by rw [List.length_take]; omega
  unfold RE
  rw [this]
  exact b

theorem RB_upto (h : RB s x bs) {k : Nat} (hk : k ≤ bs.length) : ∃ y, aPieceSl 1 (Z x) none (some (I .i64 k)) none = some (Z y) ∧ RB s y (bs.take k) ∧ (own y = none ∨ own y = own x) := by
  obtain ⟨y, a, b, c⟩ := Rd.upto h hk
  refine ⟨y, a, ?_, c⟩
  rw [Nat.mul_one, U_take] at b
  have : (bs.take k).length = k := by rw [List.length_take]; omega
  unfold RB
  rw [this]
  exact b

theorem own_lt {x y : S} {n : Nat} (h : own y = none ∨ own y = own x) (hx : ∀ c, own x = some c → c < n) : ∀ c, own y = some c → c < n := fun c hc => by
  rcases h with h | h
  · rw [h] at hc; cases hc
  · rw [h] at hc; exact hx c hc

/-- The remainder of a number, as the laws make it. -/
theorem mod_run (v : Int) {n : Nat} (h0 : 0 < n) (hn : n < 2 ^ 62) : ∃ k : Nat, k < n ∧ k = rowK v % n ∧ aConv .u64 (I .i64 v) = some (I .u64 (rowK v : Nat)) ∧ aConv .u64 (I .i64 (n : Nat)) = some (I .u64 (n : Nat)) ∧ aBin .rem (I .u64 (rowK v : Nat)) (I .u64 (n : Nat)) = some (I .u64 (k : Nat)) ∧ aConv .i64 (I .u64 (k : Nat)) = some (I .i64 (k : Nat)) :=
  ⟨_, Nat.mod_lt _ h0, rfl, by rw [aConv_int, rowK_eq], by rw [aConv_int, wrap64 _ (by omega)], rem_nat .u64 _ _ h0, by
    have := Nat.mod_lt (rowK v) h0
    rw [aConv_int, wrapi _ (by omega)]⟩

theorem torn_run (d : Nat) (wf : s.wf) {is : List Int} {cut : Int} (hx : Rd 1 s x is.length (I64 is)) (hox : ∀ c, own x = some c → c < s.size) : ∃ t, R (d + 12) 5 [Z x, I .i64 cut] s = some (B true, t) := by
  rw [f5_run]
  unfold f5
  obtain ⟨hm, hw, hl⟩ := rowsE_may is
  have hfl := rowsE_len is
  obtain ⟨o, s1, e1, f1⟩ := rows_run (d + 10) wf hx hox
  generalize rowsE is = l at *
  have ho1 : ∀ c, own o = some c → c < s1.size := fun c hc => (f1.new c hc).2
  obtain ⟨z, s2, e2, f2⟩ := all_run d f1.gr.wf f1.rd ho1 hw (by omega)
  rw [allP_may hm (by omega)] at e2 f2
  have hll := RB.lenB (bs := framesB l) f2.rd
  obtain ⟨k, hk, _, c1, c2, r1, c3⟩ := mod_run cut (n := (framesB l).length + 1) (by omega) (by omega)
  have w1 : IntKind.i64.wrap (((framesB l).length : Int) + 1) = (((framesB l).length + 1 : Nat) : Int) := by rw [wrap_in _ (by omega) (by omega)]; omega
  obtain ⟨y, p1, ry, oy⟩ := RB_upto (bs := framesB l) f2.rd (k := k) (by omega)
  have ho2 : ∀ c, own z = some c → c < s2.size := fun c hc => (f2.new c hc).2
  obtain ⟨u, s3, e3, f3⟩ := read_run' d f2.gr.wf ry (own_lt oy ho2) (by rw [List.length_take]; omega)
  obtain ⟨j, hj, hr, hle, hlt, heq⟩ := torn_law hm hw (by omega) (k := k) (by omega)
  rw [hr] at e3 f3
  simp only [resR] at e3
  have hlj : (l.take j).length = j := by rw [List.length_take]; omega
  have ul : aLenSl (Z u) = some (I .i64 ((l.take j).length : Nat)) := f3.rd.lens
  rw [hlj] at ul
  have g13 : Gr s1 s3 := f2.gr.trans f3.gr
  have re3 : RE s3 o l := (f1.rd : RE s1 o l).gr ho1 g13
  have ol := (f1.rd : RE s1 o l).lens
  have ho3 : ∀ c, own o = some c → c < s3.size := fun c hc => Nat.lt_of_lt_of_le (ho1 c hc) g13.2.1
  have hu3 : ∀ c, own u = some c → c < s3.size := fun c hc => (f3.new c hc).2
  obtain ⟨s4, e4, g4⟩ := front_run (d + 8) f3.gr.wf (f3.rd : RE s3 u (l.take j)) hu3 re3 ho3 (by rw [List.length_take]; omega)
  rw [meetP_take, decide_eq_true rfl] at e4
  obtain ⟨v, p2, rv, ov⟩ := RE_upto (re3.gr ho3 g4) (k := j) hj
  have ho4 : ∀ c, own o = some c → c < s4.size := fun c hc => Nat.lt_of_lt_of_le (ho3 c hc) g4.2.1
  obtain ⟨q, s5, e5, f5⟩ := all_run d g4.wf rv (own_lt ov ho4) (fun e he => hw e (List.mem_of_mem_take he)) (by omega)
  rw [allP_may (all_take j hm) (by omega)] at e5 f5
  simp only [resA] at e2 e5
  have ql := RB.lenB (bs := framesB (l.take j)) f5.rd
  have tl5 := fun st => told10_run (d + 10) st
  have n1 : ¬ (k : Int) < ((framesB (l.take j)).length : Nat) := by omega
  have n2 : ¬ ((l.length : Nat) : Int) < ((j : Nat) : Int) := by omega
  simp only [Nat.add_assoc, Nat.reduceAdd] at e1 e2 e3 e4 e5 tl5
  by_cases hjl : j < l.length
  · have hme : mayE l[j] = true := by
      rw [List.all_eq_true] at hm
      exact hm _ (List.getElem_mem hjl)
    obtain ⟨w, ix, ld⟩ := RE.atE (re3.gr ho3 (g4.trans f5.gr)) (n := ((j : Nat) : Int)) rfl (List.getElem?_eq_getElem hjl)
    obtain ⟨r, s6, e6, g6, f6⟩ := frame_run (d + 1) f5.gr.wf l[j] (hw _ (List.getElem_mem hjl))
    have hf : frameE l[j] = some (wrapB (putB l[j])) := by simp [frameE, hme]
    rw [hf] at e6
    simp only [resF] at e6
    have rl := (f6 _ hf).rd.lens
    have c5 : ((j : Nat) : Int) < ((l.length : Nat) : Int) := by omega
    have hlt' := hlt hjl
    have hwl := frameE_len hf
    have w2 : IntKind.i64.wrap (((framesB (l.take j)).length : Int) + ((wrapB (putB l[j])).length : Nat)) = (((framesB (l.take j)).length + (wrapB (putB l[j])).length : Nat) : Int) := by rw [wrap_in _ (by omega) (by omega)]; omega
    have n3 : (k : Int) < (((framesB (l.take j)).length + (wrapB (putB l[j])).length : Nat) : Int) := by omega
    simp only [Nat.add_assoc, Nat.reduceAdd] at e6
    refine ⟨s6, ?_⟩
    generalize (((framesB (l.take j)).length + (wrapB (putB l[j])).length : Nat) : Int) = FW at *
    generalize (((framesB (l.take j)).length : Nat) : Int) = FJ at *
    generalize (((wrapB (putB l[j])).length : Nat) : Int) = WJ at *
    generalize (((framesB l).length + 1 : Nat) : Int) = F1 at *
    generalize (((framesB l).length : Nat) : Int) = F0 at *
    generalize ((l.length : Nat) : Int) = LL at *
    generalize ((j : Nat) : Int) = JJ at *
    generalize ((k : Nat) : Int) = KK at *
    generalize ((rowK cut : Nat) : Int) = RK at *
    generalize R (d + 11) = r at *
    simp [e1, e2, aExtract, c1, hll, w1, c2, r1, c3, p1, e3, n1, ul, ol, n2, e4, p2, e5, ql, c5, ix, ld, e6, tl5, rl, w2, n3]
  · have hje : j = l.length := by omega
    have hke := heq hje
    have c5 : ¬ ((j : Nat) : Int) < ((l.length : Nat) : Int) := by omega
    have hfj : (framesB (l.take j)).length = (framesB l).length := by rw [hje, List.take_length]
    rw [hfj] at e3 ql n1
    refine ⟨s5, ?_⟩
    generalize (((framesB l).length + 1 : Nat) : Int) = F1 at *
    generalize (((framesB l).length : Nat) : Int) = F0 at *
    generalize ((l.length : Nat) : Int) = LL at *
    generalize ((j : Nat) : Int) = JJ at *
    generalize ((k : Nat) : Int) = KK at *
    generalize ((rowK cut : Nat) : Int) = RK at *
    generalize R (d + 11) = r at *
    simp [e1, e2, aExtract, c1, hll, w1, c2, r1, c3, p1, e3, n1, ul, ol, n2, e4, p2, e5, ql, c5, tl5]
end
end Go.Proofs.YtlhbidbdmdcdeaaGreatDoor

/-
  The document's own frames. No conditions but those named in each line.
-/
namespace Go.Proofs.YtlhbidbdmdcdeaaGreatDoor
open Go Go.Abs Go.Abs.F
set_option linter.unusedVariables false
section
variable {s t : St} {x y : S} {l m : List Ent} {i c : Nat}

theorem rframe_run (d : Nat) (wf : s.wf) (e : Ent) (hw : EWf e) (hx : e.x.length ≤ 8000) : ∃ t, R (d + 6) 21 [AE e] s = some (resS (frameE e), t) ∧ Gr s t := by
  rw [f21_run]
  unfold f21
  obtain ⟨s1, hs1⟩ : ∃ s1, s1 = s.push (.cells true (cE e)) := ⟨_, rfl⟩
  have nw1 : aNew s (nBox (AE e)) = some (Z (.ptr s.size 0), s1) := by rw [hs1]; rfl
  have g1 : Gr s s1 := by rw [hs1]; exact Gr.push wf _
  have b1 : s1.get s.size = some (.cells true (cE e)) := by rw [hs1]; exact St.get_push_same _ _
  have l8 := load8 (g := s1.get) b1
  obtain ⟨s2, e2, g2⟩ := rput_run d g1.wf e hw hx
  cases hm : mayE e with
  | false =>
    have hp : putE e = none := by unfold putE; rw [hm]; rfl
    have hf : frameE e = none := by unfold frameE; rw [hm]; rfl
    rw [hp] at e2
    rw [hf]
    refine ⟨s2, ?_, g1.trans g2⟩
    simp only [resS] at e2
    generalize R (d + 5) = r at *
    simp [nw1, l8, e2, aExtract, retT, allV]
  | true =>
    have hp : putE e = some (putB e) := by unfold putE; rw [hm]; rfl
    have hf : frameE e = some (wrapB (putB e)) := by unfold frameE; rw [hm]; rfl
    rw [hp] at e2
    rw [hf]
    simp only [resS] at e2
    have hl := mayE_len hm
    obtain ⟨s3, e3, g3⟩ := rvput_run (d + 4) g2.wf (putB e).length (by omega)
    have vl := vput_len (putB e).length
    have hll : aLenStr (Z (.str (putB e))) = some (I .i64 (((putB e).length : Nat) : Int)) := rfl
    have wl : IntKind.u64.wrap (((putB e).length : Nat) : Int) = (((putB e).length : Nat) : Int) := wrap64 _ (by omega)
    have a1 := str_add (vput (putB e).length) (putB e) (by omega)
    have e4 := rsum_run (bs := vput (putB e).length ++ putB e) (s := s3) (d + 3) (by simp; omega)
    obtain ⟨s5, e5, g5⟩ := four_run (d + 4) g3.wf (sumB 1 (vput (putB e).length ++ putB e))
    have hf4 : ∀ n, (four n).length = 4 := fun _ => rfl
    have a2 := str_add (vput (putB e).length) (four (sumB 1 (vput (putB e).length ++ putB e))) (by rw [hf4]; omega)
    have a3 := str_add (vput (putB e).length ++ four (sumB 1 (vput (putB e).length ++ putB e))) (putB e) (by simp [hf4]; omega)
    have hW : wrapB (putB e) = vput (putB e).length ++ four (sumB 1 (vput (putB e).length ++ putB e)) ++ putB e := rfl
    rw [hW]
    simp only [Nat.add_assoc, Nat.reduceAdd] at e3 e4 e5
    refine ⟨s5, ?_, ((g1.trans g2).trans g3).trans g5⟩
    generalize vput (putB e).length ++ four (sumB 1 (vput (putB e).length ++ putB e)) ++ putB e = W3 at *
    generalize vput (putB e).length ++ four (sumB 1 (vput (putB e).length ++ putB e)) = W2 at *
    generalize four (sumB 1 (vput (putB e).length ++ putB e)) = FF at *
    generalize ((sumB 1 (vput (putB e).length ++ putB e) : Nat) : Int) = SS at *
    generalize vput (putB e).length ++ putB e = W1 at *
    generalize vput (putB e).length = VP at *
    generalize (((putB e).length : Nat) : Int) = PL at *
    generalize R (d + 5) = r at *
    simp [nw1, l8, e2, aExtract, hll, wl, e3, a1, e4, e5, a2, a3, retT, allV]

abbrev resT (p : Bs × Int) : T := .tup [.s (.str p.1), .s (.int .i64 p.2)]

theorem rall_run (d : Nat) (wf : s.wf) (h : RE s x l) (hox : ∀ c, own x = some c → c < s.size) (hw : ∀ e ∈ l, EWf e) (hxx : ∀ e ∈ l, e.x.length ≤ 8000) (hl : l.length ≤ 200) : ∃ t, R (d + 7) 19 [Z x] s = some (resT (allP l), t) ∧ Gr s t := by
  rw [f19_run]
  unfold f19
  have hll := h.lens
  obtain ⟨j, τ, lp, hj, gτ⟩ := loops_inv (f := f19_l1 (R (d + 6)) 8192) (fun q v u => ∃ k : Nat, q + k = l.length ∧ v = [Z x, Z (.str (framesB (l.take k))), I .i64 (k : Nat)] ∧ Gr s u ∧ (l.take k).all mayE = true)
    (fun j u => (j = .exit 0 [Z x, Z (.str (framesB l))] ∧ l.all mayE = true ∨ j = .ret (.tup [.s (.str []), .s (.int .i64 1)]) ∧ l.all mayE = false) ∧ Gr s u) (by
    rintro q v u ⟨k, hk, rfl, g, ha⟩
    by_cases hkl : k < l.length
    · obtain ⟨p, ix, ld⟩ := RE.atE (h.gr hox g) (n := ((k : Nat) : Int)) rfl (List.getElem?_eq_getElem hkl)
      obtain ⟨u1, e1, g1⟩ := rframe_run d g.wf l[k] (hw _ (List.getElem_mem hkl)) (hxx _ (List.getElem_mem hkl))
      have hm := all_split l k l[k] (List.getElem?_eq_getElem hkl) ha
      have c0 : ((k : Nat) : Int) < ((l.length : Nat) : Int) := by omega
      have w1 : IntKind.i64.wrap ((k : Int) + 1) = ((k + 1 : Nat) : Int) := by rw [wrap_in _ (by omega) (by omega)]; omega
      cases hme : mayE l[k] with
      | true =>
        left
        have hf : frameE l[k] = some (wrapB (putB l[k])) := by simp [frameE, hme]
        rw [hf] at e1
        simp only [resS] at e1
        have hfl := frameE_len hf
        have hal := framesB_len _ ha
        rw [List.length_take] at hal
        have htk : l.take (k + 1) = l.take k ++ [l[k]] := by rw [List.take_add_one, List.getElem?_eq_getElem hkl]; rfl
        have ad := str_add (framesB (l.take k)) (wrapB (putB l[k])) (by omega)
        rw [← framesB_snoc, ← htk] at ad
        refine ⟨[Z x, Z (.str (framesB (l.take (k + 1)))), I .i64 ((k + 1 : Nat) : Int)], u1, q - 1, ?_, by omega, k + 1, by omega, rfl, g.trans g1, hm.2 hme⟩
        unfold f19_l1
        generalize framesB (l.take (k + 1)) = F1 at *
        generalize framesB (l.take k) = F0 at *
        generalize ((k + 1 : Nat) : Int) = K1 at *
        generalize ((k : Nat) : Int) = K at *
        generalize ((l.length : Nat) : Int) = L at *
        generalize R (d + 6) = r at *
        simp [hll, c0, ix, ld, e1, aExtract, ad, w1]
      | false =>
        right
        have hf : frameE l[k] = none := by simp [frameE, hme]
        rw [hf] at e1
        simp only [resS] at e1
        refine ⟨.ret (.tup [.s (.str []), .s (.int .i64 1)]), u1, ?_, (fun v hv => by cases hv), .inr ⟨rfl, hm.1 hme⟩, g.trans g1⟩
        unfold f19_l1
        generalize ((k : Nat) : Int) = K at *
        generalize ((l.length : Nat) : Int) = L at *
        generalize R (d + 6) = r at *
        simp [hll, c0, ix, ld, e1, aExtract, retT, allV]
    · right
      have hk' : k = l.length := by omega
      subst hk'
      rw [List.take_length] at ha
      refine ⟨.exit 0 [Z x, Z (.str (framesB l))], u, ?_, (fun v hv => by cases hv), .inl ⟨rfl, ha⟩, g⟩
      rw [List.take_length]
      unfold f19_l1
      simp [hll]) 8192 l.length [Z x, Z (.str []), I .i64 0] s ⟨0, rfl, rfl, Gr.refl wf, by simp⟩ (by omega)
  have c2 : ¬ (2000 : Int) < ((l.length : Nat) : Int) := by omega
  refine ⟨τ, ?_, gτ⟩
  generalize ((l.length : Nat) : Int) = L at *
  rcases hj with ⟨rfl, ha⟩ | ⟨rfl, ha⟩
  · rw [allP_may ha (by omega)]
    simp [lp, hll, c2, retT, allV]
  · have hp : allP l = ([], 1) := by unfold allP; rw [if_neg (by simp [ha])]
    rw [hp]
    simp [lp]
end
end Go.Proofs.YtlhbidbdmdcdeaaGreatDoor

/-
  The document's own Meet, Front and SameEntries. No conditions but those named in each line.
-/
namespace Go.Proofs.YtlhbidbdmdcdeaaGreatDoor
open Go Go.Abs Go.Abs.F
set_option linter.unusedVariables false
section
variable {s t : St} {x y : S} {l m : List Ent} {i c : Nat}

theorem rmeet_run (d : Nat) (wf : s.wf) (h : RE s x l) (k : RE s y m) (hl : l.length ≤ 8000) : R (d + 1) 26 [Z x, Z y] s = some (I .i64 (meetP l m : Nat), s) := by
  rw [f26_run]
  unfold f26
  have hll := h.lens
  have kll := k.lens
  have eqn := eqBE
  obtain ⟨j, τ, lp, hj, hτ⟩ := loops_inv (f := f26_l1 (R d) 8192) (fun q v u => ∃ n : Nat, q + n = l.length ∧ n ≤ m.length ∧ v = [Z x, Z y, I .i64 n] ∧ u = s ∧ ∀ j, j < n → l[j]? = m[j]?)
    (fun j u => j = .exit 0 [I .i64 (meetP l m : Nat)] ∧ u = s) (by
    rintro q v u ⟨n, hn, hnm, rfl, rfl, heq⟩
    have hd := meetP_drop l m n (by omega) hnm heq
    by_cases h1 : n < l.length
    · have c1 : ((n : Nat) : Int) < ((l.length : Nat) : Int) := by omega
      by_cases h2 : n < m.length
      · have c2 : ((n : Nat) : Int) < ((m.length : Nat) : Int) := by omega
        have hla : l[n]? = some l[n] := List.getElem?_eq_getElem h1
        have hma : m[n]? = some (m[n]'h2) := List.getElem?_eq_getElem h2
        obtain ⟨p, ix, ld⟩ := RE.atE h (n := (n : Int)) rfl hla
        obtain ⟨p', ix', ld'⟩ := RE.atE k (n := (n : Int)) rfl hma
        have hdl : l.drop n = l[n] :: l.drop (n + 1) := List.drop_eq_getElem_cons h1
        have hdm : m.drop n = (m[n]'h2) :: m.drop (n + 1) := List.drop_eq_getElem_cons h2
        by_cases he : l[n] = m[n]'h2
        · left
          have w1 : IntKind.i64.wrap ((n : Int) + 1) = ((n + 1 : Nat) : Int) := by rw [wrap_in _ (by omega) (by omega)]; omega
          refine ⟨[Z x, Z y, I .i64 ((n + 1 : Nat) : Int)], u, q - 1, ?_, by omega, n + 1, by omega, by omega, rfl, rfl, fun j hj => ?_⟩
          · have hde : decide (l[n] = m[n]'h2) = true := decide_eq_true he
            unfold f26_l1
            generalize l[n] = en at *
            generalize (m[n]'h2) = em at *
            generalize ((n + 1 : Nat) : Int) = N1 at *
            generalize ((l.length : Nat) : Int) = LL at *
            generalize ((m.length : Nat) : Int) = ML at *
            generalize (n : Int) = NN at *
            subst he
            simp [hll, kll, c1, c2, ix, ix', ld, ld', eqn, w1]
          · by_cases hjn : j = n
            · subst hjn; rw [hla, hma, he]
            · exact heq j (by omega)
        · right
          have hm0 : meetP l m = n := by
            rw [hd, hdl, hdm]
            show n + (if l[n] = m[n]'h2 then _ else 0) = n
            rw [if_neg he]; rfl
          refine ⟨.exit 0 [I .i64 (meetP l m : Nat)], u, ?_, (fun v hv => by cases hv), rfl, rfl⟩
          unfold f26_l1
          rw [hm0]
          clear hd hdl hdm hla hma
          generalize l[n] = en at *
          generalize (m[n]'h2) = em at *
          generalize ((l.length : Nat) : Int) = LL at *
          generalize ((m.length : Nat) : Int) = ML at *
          generalize (n : Int) = NN at *
          simp [hll, kll, c1, c2, ix, ix', ld, ld', eqn, he]
      · right
        have c2 : ¬ ((n : Nat) : Int) < ((m.length : Nat) : Int) := by omega
        have hm0 : meetP l m = n := by
          rw [hd, show n = m.length by omega, List.drop_length]
          cases l.drop m.length <;> simp [meetP]
        refine ⟨.exit 0 [I .i64 (meetP l m : Nat)], u, ?_, (fun v hv => by cases hv), rfl, rfl⟩
        unfold f26_l1
        rw [hm0]
        generalize ((l.length : Nat) : Int) = LL at *
        generalize ((m.length : Nat) : Int) = ML at *
        generalize (n : Int) = NN at *
        simp [hll, kll, c1, c2, gtt]
    · right
      have c1 : ¬ ((n : Nat) : Int) < ((l.length : Nat) : Int) := by omega
      have hm0 : meetP l m = n := by
        rw [hd, show n = l.length by omega, List.drop_length]
        simp [meetP]
      refine ⟨.exit 0 [I .i64 (meetP l m : Nat)], u, ?_, (fun v hv => by cases hv), rfl, rfl⟩
      unfold f26_l1
      rw [hm0]
      generalize ((l.length : Nat) : Int) = LL at *
      generalize ((m.length : Nat) : Int) = ML at *
      generalize (n : Int) = NN at *
      simp [hll, kll, c1, gtt]) 8192 l.length [Z x, Z y, I .i64 0] s ⟨0, rfl, by omega, rfl, rfl, fun j hj => by omega⟩ (by omega)
  subst hj; subst hτ
  simp [lp]

theorem rfront_run (d : Nat) (wf : s.wf) (h : RE s x l) (k : RE s y m) (hl : l.length ≤ 8000) : R (d + 2) 24 [Z x, Z y] s = some (B (decide (meetP l m = l.length)), s) := by
  rw [f24_run]
  unfold f24
  have e1 := rmeet_run d wf h k hl
  have hll := h.lens
  have hd : decide (((meetP l m : Nat) : Int) = ((l.length : Nat) : Int)) = decide (meetP l m = l.length) := decide_eq_decide.2 (by omega)
  generalize ((meetP l m : Nat) : Int) = M at *
  generalize ((l.length : Nat) : Int) = L at *
  simp only [e1, bd2_some, hll, bd_some, eql_int, hd]
end
end Go.Proofs.YtlhbidbdmdcdeaaGreatDoor

/-
  The document's own reader of bytes: a byte, a number, a text. No conditions but those named in each line.
-/
namespace Go.Proofs.YtlhbidbdmdcdeaaGreatDoor
open Go Go.Abs Go.Abs.F
set_option linter.unusedVariables false

/-- The reader: its bytes, its place, an error. -/
abbrev cC (b : Bs) (at_ : Nat) (bad : Bool) : List S := [.str b, .int .i64 (at_ : Nat), .bool bad]
def rnum (b : Bs) (at_ : Nat) (bad : Bool) : Nat × Nat × Bool := if bad then (0, at_, true) else match vget b at_ with
  | some (n, e) => (n, e, false)
  | none => (0, at_, true)

section
variable {s t : St} {x y : S} {b : Bs} {i c : Nat}

theorem rnum_run (d : Nat) (wf : s.wf) {at_ : Nat} {bad : Bool} (hc : s.get c = some (.cells true (cC b at_ bad))) (hl : b.length ≤ 100000) (ha : at_ ≤ b.length) :
    ∃ t, R (d + 2) 58 [Z (.ptr c 0)] s = some (I .u64 ((rnum b at_ bad).1 : Nat), t) ∧ t.get c = some (.cells true (cC b (rnum b at_ bad).2.1 (rnum b at_ bad).2.2)) ∧ But c s t ∧ (rnum b at_ bad).2.1 ≤ b.length := by
  rw [f58_run]
  unfold f58
  have an : aNil (Z (.ptr c 0)) = some (Z (.ptr c 0)) := rfl
  have fa : ∀ j, aFieldAddr j (Z (.ptr c 0)) = some (Z (.ptr c j)) := fun j => by simp [aFieldAddr]
  have l0 : aLoad1 (Z (.ptr c 0)) s.get = some (Z (.str b)) := aLoad1_of hc rfl
  have l1 : aLoad1 (Z (.ptr c 1)) s.get = some (I .i64 (at_ : Nat)) := aLoad1_of hc rfl
  have l2 : aLoad1 (Z (.ptr c 2)) s.get = some (B bad) := aLoad1_of hc rfl
  have hcl := wf.lt hc
  cases bad with
  | true =>
    refine ⟨s, ?_, hc, ⟨wf, Nat.le_refl _, fun _ _ _ => rfl⟩, ha⟩
    simp [an, fa, l2, rnum]
  | false =>
    have e1 := rget_run (s := s) d hl (at_ := at_) (by omega)
    have two : ∀ (p : Nat) (q : Bool), ∃ t1 t2, aStore 1 (Z (.ptr c 1)) (I .i64 (p : Nat)) s = some (tt, t1) ∧ aStore 1 (Z (.ptr c 2)) (B q) t1 = some (tt, t2) ∧ t2.get c = some (.cells true (cC b p q)) ∧ But c s t2 := fun p q => by
      have s1 := aStore1_of (σ := s) (i := c) (o := 1) (x := .int .i64 (p : Nat)) hc (by simp)
      have hc1 : (s.set c (.cells true (cC b p false))).get c = some (.cells true (cC b p false)) := St.get_set_same _ _ _
      have s2 := aStore1_of (σ := s.set c (.cells true (cC b p false))) (i := c) (o := 2) (x := .bool q) hc1 (by simp)
      refine ⟨_, _, s1, s2, St.get_set_same _ _ _, St.wf_set (St.wf_set wf hcl _) (by simpa using hcl) _, by simp, fun k hk hk' => by rw [St.get_set_ne _ _ hk', St.get_set_ne _ _ hk']⟩
    cases hv : vget b at_ with
    | none =>
      rw [hv] at e1
      simp only [vres, if_pos ha] at e1
      obtain ⟨t1, t2, s1, s2, r, bt⟩ := two at_ true
      have hr : rnum b at_ false = (0, at_, true) := by unfold rnum; rw [hv]; rfl
      rw [hr]
      refine ⟨t2, ?_, r, bt, ha⟩
      generalize R (d + 1) = rr at *
      simp [an, fa, l0, l1, l2, e1, aExtract, s1, s2]
    | some p =>
      obtain ⟨m, to⟩ := p
      rw [hv] at e1
      simp only [vres] at e1
      obtain ⟨t1, t2, s1, s2, r, bt⟩ := two to false
      have hr : rnum b at_ false = (m, to, false) := by unfold rnum; rw [hv]; rfl
      rw [hr]
      refine ⟨t2, ?_, r, bt, (vget_lt hv).2⟩
      generalize R (d + 1) = rr at *
      simp [an, fa, l0, l1, l2, e1, aExtract, s1, s2]

/-- The first byte. -/
theorem rbyte_run (d : Nat) (wf : s.wf) (hc : s.get c = some (.cells true (cC b 0 false))) : ∃ t, R (d + 1) 56 [Z (.ptr c 0)] s = some (I .u8 ((b.headD 0).toNat : Nat), t) ∧ t.get c = some (.cells true (cC b (if b = [] then 0 else 1) (decide (b = [])))) ∧ But c s t := by
  rw [f56_run]
  unfold f56
  have an : aNil (Z (.ptr c 0)) = some (Z (.ptr c 0)) := rfl
  have fa : ∀ j, aFieldAddr j (Z (.ptr c 0)) = some (Z (.ptr c j)) := fun j => by simp [aFieldAddr]
  have l0 : aLoad1 (Z (.ptr c 0)) s.get = some (Z (.str b)) := aLoad1_of hc rfl
  have l1 : aLoad1 (Z (.ptr c 1)) s.get = some (I .i64 0) := aLoad1_of hc rfl
  have l2 : aLoad1 (Z (.ptr c 2)) s.get = some (B false) := aLoad1_of hc rfl
  have hcl := wf.lt hc
  have hl : aLenStr (Z (.str b)) = some (I .i64 ((b.length : Nat) : Int)) := rfl
  have one : ∀ {j : Nat} {v : S}, j < 3 → ∃ t, aStore 1 (Z (.ptr c j)) (Z v) s = some (tt, t) ∧ t.get c = some (.cells true ((cC b 0 false).set j v)) ∧ But c s t := fun {j v} hj => by
    have s1 := aStore1_of (σ := s) (i := c) (o := j) (x := v) hc (by simpa using hj)
    exact ⟨_, s1, St.get_set_same _ _ _, St.wf_set wf hcl _, by simp, fun k hk hk' => St.get_set_ne _ _ hk'⟩
  cases hb : b with
  | nil =>
    rw [hb] at hl l0
    obtain ⟨t1, s1, r1, bt⟩ := one (j := 2) (v := .bool true) (by omega)
    rw [hb] at r1
    refine ⟨t1, ?_, r1, bt⟩
    have hl' : aLenStr (Z (.str [])) = some (I .i64 0) := rfl
    simp [an, fa, l0, l1, l2, hl', s1]
  | cons a r =>
    rw [hb] at hl l0
    obtain ⟨t1, s1, r1, bt⟩ := one (j := 1) (v := .int .i64 1) (by omega)
    rw [hb] at r1
    have c1 : ¬ (((a :: r).length : Nat) : Int) ≤ 0 := by simp
    have w1 : IntKind.i64.wrap 1 = 1 := rfl
    have w0 : IntKind.i64.wrap 0 = 0 := rfl
    have r1' : t1.get c = some (.cells true (cC (a :: r) 1 false)) := r1
    have m0 : aLoad1 (Z (.ptr c 0)) t1.get = some (Z (.str (a :: r))) := aLoad1_of r1' rfl
    have m1 : aLoad1 (Z (.ptr c 1)) t1.get = some (I .i64 1) := aLoad1_of r1' rfl
    have at0 : aAtStr (Z (.str (a :: r))) (I .i64 0) = some (I .u8 a.toNat) := at_str (j := 0) rfl rfl
    refine ⟨t1, ?_, by simpa using r1', bt⟩
    rw [show ((a :: r).headD 0) = a from rfl]
    generalize (((a :: r).length : Nat) : Int) = L at *
    generalize a :: r = br at *
    simp [an, fa, l0, l1, l2, hl, c1, w1, s1, m0, m1, w0, at0]

def rtext (b : Bs) (n at_ : Nat) (bad : Bool) : Bs × Nat × Bool := if bad = true ∨ b.length - at_ < n then ([], at_, true) else ((b.drop at_).take n, at_ + n, false)

/-- So many bytes. -/
theorem rtext_run (d : Nat) (wf : s.wf) {n at_ : Nat} {bad : Bool} (hc : s.get c = some (.cells true (cC b at_ bad))) (hl : b.length ≤ 100000) (ha : at_ ≤ b.length) :
    ∃ t, R (d + 1) 59 [Z (.ptr c 0), I .u64 (n : Nat)] s = some (Z (.str (rtext b n at_ bad).1), t) ∧ t.get c = some (.cells true (cC b (rtext b n at_ bad).2.1 (rtext b n at_ bad).2.2)) ∧ But c s t := by
  rw [f59_run]
  unfold f59
  have an : aNil (Z (.ptr c 0)) = some (Z (.ptr c 0)) := rfl
  have fa : ∀ j, aFieldAddr j (Z (.ptr c 0)) = some (Z (.ptr c j)) := fun j => by simp [aFieldAddr]
  have l0 : aLoad1 (Z (.ptr c 0)) s.get = some (Z (.str b)) := aLoad1_of hc rfl
  have l1 : aLoad1 (Z (.ptr c 1)) s.get = some (I .i64 (at_ : Nat)) := aLoad1_of hc rfl
  have l2 : aLoad1 (Z (.ptr c 2)) s.get = some (B bad) := aLoad1_of hc rfl
  have hcl := wf.lt hc
  have hl' : aLenStr (Z (.str b)) = some (I .i64 ((b.length : Nat) : Int)) := rfl
  have one : ∀ {j : Nat} {v : S}, j < 3 → ∃ t, aStore 1 (Z (.ptr c j)) (Z v) s = some (tt, t) ∧ t.get c = some (.cells true ((cC b at_ bad).set j v)) ∧ But c s t := fun {j v} hj => by
    have s1 := aStore1_of (σ := s) (i := c) (o := j) (x := v) hc (by simpa using hj)
    exact ⟨_, s1, St.get_set_same _ _ _, St.wf_set wf hcl _, by simp, fun k hk hk' => St.get_set_ne _ _ hk'⟩
  have w1 : IntKind.i64.wrap (((b.length : Nat) : Int) - ((at_ : Nat) : Int)) = ((b.length - at_ : Nat) : Int) := by rw [wrap_in _ (by omega) (by omega)]; omega
  have w2 : IntKind.u64.wrap ((b.length - at_ : Nat) : Int) = ((b.length - at_ : Nat) : Int) := wrap64 _ (by omega)
  by_cases h : bad = true ∨ b.length - at_ < n
  · have hr : rtext b n at_ bad = ([], at_, true) := by unfold rtext; rw [if_pos h]
    rw [hr]
    obtain ⟨t1, s1, r1, bt⟩ := one (j := 2) (v := .bool true) (by omega)
    refine ⟨t1, ?_, r1, bt⟩
    cases bad with
    | true => simp [an, fa, l2, s1, gtt]
    | false =>
      have hh : b.length - at_ < n := h.resolve_left (by decide)
      have c1 : ((b.length - at_ : Nat) : Int) < ((n : Nat) : Int) := by omega
      generalize ((b.length - at_ : Nat) : Int) = D at *
      generalize ((b.length : Nat) : Int) = L at *
      generalize ((at_ : Nat) : Int) = A at *
      generalize ((n : Nat) : Int) = NN at *
      simp [an, fa, l0, l1, l2, hl', w1, w2, c1, s1]
  · have hr : rtext b n at_ bad = ((b.drop at_).take n, at_ + n, false) := by unfold rtext; rw [if_neg h]
    have hb : bad = false := by cases bad with
      | true => exact absurd (.inl rfl) h
      | false => rfl
    subst hb
    have hh : ¬ b.length - at_ < n := fun e => h (.inr e)
    rw [hr]
    obtain ⟨t1, s1, r1, bt⟩ := one (j := 1) (v := .int .i64 ((at_ + n : Nat) : Int)) (by omega)
    have r1' : t1.get c = some (.cells true (cC b (at_ + n) false)) := r1
    have m0 : aLoad1 (Z (.ptr c 0)) t1.get = some (Z (.str b)) := aLoad1_of r1' rfl
    have m1 : aLoad1 (Z (.ptr c 1)) t1.get = some (I .i64 ((at_ + n : Nat) : Int)) := aLoad1_of r1' rfl
    have c1 : ¬ ((b.length - at_ : Nat) : Int) < ((n : Nat) : Int) := by omega
    have w3 : IntKind.i64.wrap ((n : Nat) : Int) = ((n : Nat) : Int) := wrapi _ (by omega)
    have w4 : IntKind.i64.wrap (((at_ : Nat) : Int) + ((n : Nat) : Int)) = ((at_ + n : Nat) : Int) := by rw [wrap_in _ (by omega) (by omega)]; omega
    have w5 : IntKind.i64.wrap (((at_ + n : Nat) : Int) - ((n : Nat) : Int)) = ((at_ : Nat) : Int) := by rw [wrap_in _ (by omega) (by omega)]; omega
    have pc := aPieceStr_lh (l := b) (lo := at_) (hi := at_ + n) rfl rfl (by omega) (by omega)
    rw [Nat.add_sub_cancel_left] at pc
    refine ⟨t1, ?_, r1', bt⟩
    generalize ((b.length - at_ : Nat) : Int) = D at *
    generalize ((at_ + n : Nat) : Int) = AN at *
    generalize ((b.length : Nat) : Int) = L at *
    generalize ((at_ : Nat) : Int) = A at *
    generalize ((n : Nat) : Int) = NN at *
    simp [an, fa, l0, l1, l2, hl', w1, w2, c1, w3, w4, s1, m0, m1, w5, pc]

theorem small_run (d : Nat) (n most : Nat) (hm : most < 2 ^ 62) : R (d + 1) 57 [I .u64 (n : Nat), I .u64 (most : Nat)] s = some (I .i64 ((if most < n then most + 1 else n : Nat) : Int), s) := by
  rw [f57_run]
  unfold f57
  by_cases h : most < n
  · have c1 : ((most : Nat) : Int) < ((n : Nat) : Int) := by omega
    have w1 : IntKind.i64.wrap ((most : Nat) : Int) = ((most : Nat) : Int) := wrapi _ (by omega)
    have w2 : IntKind.i64.wrap (((most : Nat) : Int) + 1) = ((most + 1 : Nat) : Int) := by rw [wrap_in _ (by omega) (by omega)]; omega
    rw [if_pos h]
    generalize ((most + 1 : Nat) : Int) = M1 at *
    generalize ((most : Nat) : Int) = M at *
    generalize ((n : Nat) : Int) = NN at *
    simp [c1, w1, w2]
  · have c1 : ¬ ((most : Nat) : Int) < ((n : Nat) : Int) := by omega
    have w1 : IntKind.i64.wrap ((n : Nat) : Int) = ((n : Nat) : Int) := wrapi _ (by omega)
    rw [if_neg h]
    generalize ((most : Nat) : Int) = M at *
    generalize ((n : Nat) : Int) = NN at *
    simp [c1, w1]
end
end Go.Proofs.YtlhbidbdmdcdeaaGreatDoor

/-
  The document's own reader of entries. No conditions but those named in each line.
-/
namespace Go.Proofs.YtlhbidbdmdcdeaaGreatDoor
open Go Go.Abs Go.Abs.F
set_option linter.unusedVariables false

def sm (n most : Nat) : Nat := if most < n then most + 1 else n
/-- A number read as far as a bound, with the place and the error behind it. -/
def rnx (b : Bs) (most at_ : Nat) (bad : Bool) : Nat × Nat × Bool := (sm (rnum b at_ bad).1 most, (rnum b at_ bad).2.1, (rnum b at_ bad).2.2)
def rgetF (b : Bs) : Ent × Bool :=
  let p := rnx b 1073741824 (if b = [] then 0 else 1) (decide (b = []))
  let e0 : Ent := { ent0 with k := (b.headD 0).toNat, v := (p.1 : Nat) }
  if (b.headD 0).toNat = 1 then
    let i := rnx b 1073741824 p.2.1 p.2.2
    let t := rnx b 4 i.2.1 i.2.2
    let f := rnx b 1099511627776 t.2.1 t.2.2
    let o := rnx b 1099511627776 f.2.1 f.2.2
    let u := rnum b o.2.1 o.2.2
    ({ e0 with i := (i.1 : Nat), t := (t.1 : Nat), f := (f.1 : Nat), o := (o.1 : Nat), u := (u.1 % 4294967296 : Nat) }, u.2.2)
  else if (b.headD 0).toNat = 2 then
    let i := rnx b 1073741824 p.2.1 p.2.2
    ({ e0 with i := (i.1 : Nat) }, i.2.2)
  else if (b.headD 0).toNat = 4 then
    let m := rnum b p.2.1 p.2.2
    ({ e0 with x := (rtext b m.1 m.2.1 m.2.2).1 }, (rtext b m.1 m.2.1 m.2.2).2.2)
  else (e0, p.2.2)

theorem rnx_put {bs pre post : Bs} {n at_ most : Nat} (hb : bs = pre ++ (vput n ++ post)) (ha : at_ = pre.length) (hn : n ≤ most) (hm : most < 2 ^ 64) : rnx bs most at_ false = (n, at_ + (vput n).length, false) := by
  have : rnum bs at_ false = (n, at_ + (vput n).length, false) := by
    unfold rnum
    rw [vget_vput hb ha (by omega)]
    rfl
  unfold rnx
  rw [this]
  simp only [sm, if_neg (show ¬ most < n by omega)]

theorem rnum_put {bs pre post : Bs} {n at_ : Nat} (hb : bs = pre ++ (vput n ++ post)) (ha : at_ = pre.length) (hn : n < 2 ^ 64) : rnum bs at_ false = (n, at_ + (vput n).length, false) := by
  unfold rnum
  rw [vget_vput hb ha hn]
  rfl

/-- What is put is got. -/
theorem rgetF_putB {e : Ent} (h : mayE e = true) (hw : EWf e) : rgetF (putB e) = (e, false) := by
  obtain ⟨v0, v1, k0, k1, h1, h2, h3, h4⟩ := mayE_range h
  obtain ⟨w0, w1⟩ := hw
  have hkb : (UInt8.ofNat e.k.toNat).toNat = e.k.toNat := by rw [byte_nat]; omega
  have hne : putB e ≠ [] := by simp [putB]
  have hhd : ((putB e).headD 0).toNat = e.k.toNat := by rw [← hkb]; rfl
  have hc1 : putB e = [UInt8.ofNat e.k.toNat] ++ (vput e.v.toNat ++ (putNs (nums e) ++ e.x)) := by simp [putB]
  have n1 := rnx_put (most := 1073741824) hc1 rfl (by omega) (by omega)
  have hv : ((e.v.toNat : Nat) : Int) = e.v := Int.toNat_of_nonneg v0
  unfold rgetF
  rw [if_neg hne, decide_eq_false hne]
  rcases (by omega : e.k = 1 ∨ e.k = 2 ∨ e.k = 3 ∨ e.k = 4) with hk | hk | hk | hk
  · obtain ⟨hx, i0, i1, t0, t1, f0, f1, o1⟩ := h1 hk
    have hk' : ((putB e).headD 0).toNat = 1 := by rw [hhd, hk]; rfl
    have hn : nums e = [e.i.toNat, e.t.toNat, e.f.toNat, e.o.toNat, e.u.toNat] := by simp [nums, hk]
    have c2 : putB e = ([UInt8.ofNat e.k.toNat] ++ vput e.v.toNat) ++ (vput e.i.toNat ++ (vput e.t.toNat ++ vput e.f.toNat ++ vput e.o.toNat ++ vput e.u.toNat)) := by simp [putB, hn, putNs, hx]
    have c3 : putB e = ([UInt8.ofNat e.k.toNat] ++ vput e.v.toNat ++ vput e.i.toNat) ++ (vput e.t.toNat ++ (vput e.f.toNat ++ vput e.o.toNat ++ vput e.u.toNat)) := by simp [putB, hn, putNs, hx]
    have c4 : putB e = ([UInt8.ofNat e.k.toNat] ++ vput e.v.toNat ++ vput e.i.toNat ++ vput e.t.toNat) ++ (vput e.f.toNat ++ (vput e.o.toNat ++ vput e.u.toNat)) := by simp [putB, hn, putNs, hx]
    have c5 : putB e = ([UInt8.ofNat e.k.toNat] ++ vput e.v.toNat ++ vput e.i.toNat ++ vput e.t.toNat ++ vput e.f.toNat) ++ (vput e.o.toNat ++ vput e.u.toNat) := by simp [putB, hn, putNs, hx]
    have c6 : putB e = ([UInt8.ofNat e.k.toNat] ++ vput e.v.toNat ++ vput e.i.toNat ++ vput e.t.toNat ++ vput e.f.toNat ++ vput e.o.toNat) ++ (vput e.u.toNat ++ []) := by simp [putB, hn, putNs, hx]
    have n2 := rnx_put (most := 1073741824) c2 rfl (by omega) (by omega)
    have n3 := rnx_put (most := 4) c3 rfl (by omega) (by omega)
    have n4 := rnx_put (most := 1099511627776) c4 rfl (by omega) (by omega)
    have n5 := rnx_put (most := 1099511627776) c5 rfl (by omega) (by omega)
    have n6 := rnum_put c6 rfl (by omega)
    simp only [List.length_append, List.length_cons, List.length_nil, Nat.zero_add] at n1 n2 n3 n4 n5 n6
    simp only [hk', n1, n2, n3, n4, n5, n6, if_true]
    rw [Nat.mod_eq_of_lt (show e.u.toNat < 4294967296 by omega)]
    simp only [hv, Int.toNat_of_nonneg (show 0 ≤ e.i by omega), Int.toNat_of_nonneg t0, Int.toNat_of_nonneg f0, Int.toNat_of_nonneg (show 0 ≤ e.o by omega), Int.toNat_of_nonneg w0]
    obtain ⟨a1, a2, a3, a4, a5, a6, a7, a8⟩ := e
    simp only at hk hx
    subst hk hx
    rfl
  · have hk' : ((putB e).headD 0).toNat = 2 := by rw [hhd, hk]; rfl
    obtain ⟨q0, q1, q2⟩ := h2 hk
    have hn : nums e = [e.i.toNat] := by simp [nums, hk]
    have c2 : putB e = ([UInt8.ofNat e.k.toNat] ++ vput e.v.toNat) ++ (vput e.i.toNat ++ e.x) := by simp [putB, hn, putNs]
    have n2 := rnx_put (most := 1073741824) c2 rfl (by omega) (by omega)
    simp only [List.length_append, List.length_cons, List.length_nil, Nat.zero_add] at n1 n2
    simp only [hk', n1, n2, if_true, if_neg (show ¬ (2 : Nat) = 1 by decide)]
    rw [hv, Int.toNat_of_nonneg (show 0 ≤ e.i by omega)]
    obtain ⟨a1, a2, a3, a4, a5, a6, a7, a8⟩ := e
    simp only at hk
    subst hk
    obtain rfl : a4 = 0 := congrArg Ent.t q2
    obtain rfl : a5 = 0 := congrArg Ent.f q2
    obtain rfl : a6 = 0 := congrArg Ent.o q2
    obtain rfl : a7 = 0 := congrArg Ent.u q2
    obtain rfl : a8 = [] := congrArg Ent.x q2
    rfl
  · have hk' : ((putB e).headD 0).toNat = 3 := by rw [hhd, hk]; rfl
    simp only [List.length_cons, List.length_nil, Nat.zero_add] at n1
    simp only [hk', n1, if_neg (show ¬ (3 : Nat) = 1 by decide), if_neg (show ¬ (3 : Nat) = 2 by decide), if_neg (show ¬ (3 : Nat) = 4 by decide)]
    rw [hv]
    have q2 := (h3 hk).2
    obtain ⟨a1, a2, a3, a4, a5, a6, a7, a8⟩ := e
    simp only at hk
    subst hk
    obtain rfl : a3 = 0 := congrArg Ent.i q2
    obtain rfl : a4 = 0 := congrArg Ent.t q2
    obtain rfl : a5 = 0 := congrArg Ent.f q2
    obtain rfl : a6 = 0 := congrArg Ent.o q2
    obtain rfl : a7 = 0 := congrArg Ent.u q2
    obtain rfl : a8 = [] := congrArg Ent.x q2
    rfl
  · have hk' : ((putB e).headD 0).toNat = 4 := by rw [hhd, hk]; rfl
    obtain ⟨x0, q2, _⟩ := h4 hk
    have hn : nums e = [e.x.length] := by simp [nums, hk]
    have c2 : putB e = ([UInt8.ofNat e.k.toNat] ++ vput e.v.toNat) ++ (vput e.x.length ++ e.x) := by simp [putB, hn, putNs]
    have n2 := rnum_put c2 rfl (by omega)
    have hl : (putB e).length = 1 + (vput e.v.toNat).length + (vput e.x.length).length + e.x.length := by rw [c2]; simp; omega
    have hd : (putB e).drop (1 + (vput e.v.toNat).length + (vput e.x.length).length) = e.x := by
      rw [c2, ← List.append_assoc, List.drop_left']
      simp
      omega
    simp only [List.length_append, List.length_cons, List.length_nil, Nat.zero_add] at n1 n2
    have hr : rtext (putB e) e.x.length (1 + (vput e.v.toNat).length + (vput e.x.length).length) false = (e.x, 1 + (vput e.v.toNat).length + (vput e.x.length).length + e.x.length, false) := by
      unfold rtext
      rw [if_neg (by rw [hl]; simp), hd, List.take_length]
    simp only [hk', n1, n2, hr, if_neg (show ¬ (4 : Nat) = 1 by decide), if_neg (show ¬ (4 : Nat) = 2 by decide), if_true]
    rw [hv]
    obtain ⟨a1, a2, a3, a4, a5, a6, a7, a8⟩ := e
    simp only at hk
    subst hk
    obtain rfl : a3 = 0 := congrArg Ent.i q2
    obtain rfl : a4 = 0 := congrArg Ent.t q2
    obtain rfl : a5 = 0 := congrArg Ent.f q2
    obtain rfl : a6 = 0 := congrArg Ent.o q2
    obtain rfl : a7 = 0 := congrArg Ent.u q2
    rfl

/-- Both readers of entries are one. -/
theorem rget_eq (b : Bs) (hw : EWf (rgetF b).1) (hwf : ∀ e, getE b = some e → EWf e) : getE b = if (rgetF b).2 = false ∧ putE (rgetF b).1 = some b then some (rgetF b).1 else none := by
  by_cases h : (rgetF b).2 = false ∧ putE (rgetF b).1 = some b
  · rw [if_pos h]
    have h2 := h.2
    unfold putE at h2
    split at h2
    · rename_i hm
      have hb : putB (rgetF b).1 = b := by simpa using h2
      have := getE_putB hm hw
      rwa [hb] at this
    · cases h2
  · rw [if_neg h]
    cases hg : getE b with
    | none => rfl
    | some e =>
      obtain ⟨hm, hb⟩ := getE_back hg
      have hr := rgetF_putB hm (hwf e hg)
      rw [← hb] at hr
      exfalso
      apply h
      rw [hr]
      refine ⟨rfl, ?_⟩
      unfold putE
      rw [if_pos hm, ← hb]
end Go.Proofs.YtlhbidbdmdcdeaaGreatDoor

/-
  The document's own reader of entries, as it runs. No conditions but those named in each line.
-/
namespace Go.Proofs.YtlhbidbdmdcdeaaGreatDoor
open Go Go.Abs Go.Abs.F
set_option linter.unusedVariables false

theorem z0 : (0 : Int) ≤ 0 := by decide
theorem z1 : (0 : Int) < 4294967296 := by decide

theorem getE_wf {b : Bs} {e : Ent} (h : getE b = some e) : EWf e := by
  unfold getE at h
  split at h
  · cases h
  · rename_i c r
    split at h
    · cases h
    · rename_i e' bad hf
      split at h
      · cases h
        unfold getFields at hf
        simp only at hf
        split at hf
        · cases hf
          refine ⟨Int.natCast_nonneg _, ?_⟩
          have h4 : ∀ at_ bad, (((nxt (c :: r) 4294967295 at_ bad).1 : Nat) : Int) < 4294967296 := fun at_ bad => by
            have := @nxt_le (c :: r) 4294967295 at_ bad
            omega
          exact h4 _ _
        · split at hf
          · cases hf; exact ⟨z0, z1⟩
          · split at hf
            · split at hf
              · cases hf
              · cases hf; exact ⟨z0, z1⟩
            · cases hf; exact ⟨z0, z1⟩
      · cases h

theorem rgetF_wf (b : Bs) : EWf (rgetF b).1 := by
  unfold rgetF
  simp only
  split
  · refine ⟨Int.natCast_nonneg _, ?_⟩
    have h4 : ∀ n : Nat, ((n % 4294967296 : Nat) : Int) < 4294967296 := fun n => by omega
    exact h4 _
  · split
    · exact ⟨z0, z1⟩
    · split
      · exact ⟨z0, z1⟩
      · exact ⟨z0, z1⟩

theorem rget_eq' (b : Bs) : getE b = if (rgetF b).2 = false ∧ putE (rgetF b).1 = some b then some (rgetF b).1 else none := rget_eq b (rgetF_wf b) fun e h => getE_wf h
end Go.Proofs.YtlhbidbdmdcdeaaGreatDoor

/-
  What is put is the only thing that is got from it: nothing shorter, nothing longer. No conditions but those named in each line.
-/
namespace Go.Proofs.YtlhbidbdmdcdeaaGreatDoor
open Go Go.Abs Go.Abs.F
set_option linter.unusedVariables false

theorem rgetF_app {e : Ent} (h : mayE e = true) (hw : EWf e) (z : Bs) : rgetF (putB e ++ z) = (e, false) := by
  obtain ⟨v0, v1, k0, k1, h1, h2, h3, h4⟩ := mayE_range h
  obtain ⟨w0, w1⟩ := hw
  have hkb : (UInt8.ofNat e.k.toNat).toNat = e.k.toNat := by rw [byte_nat]; omega
  have hne : putB e ++ z ≠ [] := by simp [putB]
  have hhd : ((putB e ++ z).headD 0).toNat = e.k.toNat := by rw [← hkb]; rfl
  have hc1 : putB e ++ z = [UInt8.ofNat e.k.toNat] ++ (vput e.v.toNat ++ (putNs (nums e) ++ e.x ++ z)) := by simp [putB]
  have n1 := rnx_put (most := 1073741824) hc1 rfl (by omega) (by omega)
  have hv : ((e.v.toNat : Nat) : Int) = e.v := Int.toNat_of_nonneg v0
  unfold rgetF
  rw [if_neg hne, decide_eq_false hne]
  rcases (by omega : e.k = 1 ∨ e.k = 2 ∨ e.k = 3 ∨ e.k = 4) with hk | hk | hk | hk
  · obtain ⟨hx, i0, i1, t0, t1, f0, f1, o1⟩ := h1 hk
    have hk' : ((putB e ++ z).headD 0).toNat = 1 := by rw [hhd, hk]; rfl
    have hn : nums e = [e.i.toNat, e.t.toNat, e.f.toNat, e.o.toNat, e.u.toNat] := by simp [nums, hk]
    have c2 : putB e ++ z = ([UInt8.ofNat e.k.toNat] ++ vput e.v.toNat) ++ (vput e.i.toNat ++ (vput e.t.toNat ++ vput e.f.toNat ++ vput e.o.toNat ++ vput e.u.toNat ++ z)) := by simp [putB, hn, putNs, hx]
    have c3 : putB e ++ z = ([UInt8.ofNat e.k.toNat] ++ vput e.v.toNat ++ vput e.i.toNat) ++ (vput e.t.toNat ++ (vput e.f.toNat ++ vput e.o.toNat ++ vput e.u.toNat ++ z)) := by simp [putB, hn, putNs, hx]
    have c4 : putB e ++ z = ([UInt8.ofNat e.k.toNat] ++ vput e.v.toNat ++ vput e.i.toNat ++ vput e.t.toNat) ++ (vput e.f.toNat ++ (vput e.o.toNat ++ vput e.u.toNat ++ z)) := by simp [putB, hn, putNs, hx]
    have c5 : putB e ++ z = ([UInt8.ofNat e.k.toNat] ++ vput e.v.toNat ++ vput e.i.toNat ++ vput e.t.toNat ++ vput e.f.toNat) ++ (vput e.o.toNat ++ (vput e.u.toNat ++ z)) := by simp [putB, hn, putNs, hx]
    have c6 : putB e ++ z = ([UInt8.ofNat e.k.toNat] ++ vput e.v.toNat ++ vput e.i.toNat ++ vput e.t.toNat ++ vput e.f.toNat ++ vput e.o.toNat) ++ (vput e.u.toNat ++ z) := by simp [putB, hn, putNs, hx]
    have n2 := rnx_put (most := 1073741824) c2 rfl (by omega) (by omega)
    have n3 := rnx_put (most := 4) c3 rfl (by omega) (by omega)
    have n4 := rnx_put (most := 1099511627776) c4 rfl (by omega) (by omega)
    have n5 := rnx_put (most := 1099511627776) c5 rfl (by omega) (by omega)
    have n6 := rnum_put c6 rfl (by omega)
    simp only [List.length_append, List.length_cons, List.length_nil, Nat.zero_add] at n1 n2 n3 n4 n5 n6
    simp only [hk', n1, n2, n3, n4, n5, n6, if_true]
    rw [Nat.mod_eq_of_lt (show e.u.toNat < 4294967296 by omega)]
    simp only [hv, Int.toNat_of_nonneg (show 0 ≤ e.i by omega), Int.toNat_of_nonneg t0, Int.toNat_of_nonneg f0, Int.toNat_of_nonneg (show 0 ≤ e.o by omega), Int.toNat_of_nonneg w0]
    obtain ⟨a1, a2, a3, a4, a5, a6, a7, a8⟩ := e
    simp only at hk hx
    subst hk hx
    rfl
  · have hk' : ((putB e ++ z).headD 0).toNat = 2 := by rw [hhd, hk]; rfl
    obtain ⟨q0, q1, q2⟩ := h2 hk
    have hn : nums e = [e.i.toNat] := by simp [nums, hk]
    have c2 : putB e ++ z = ([UInt8.ofNat e.k.toNat] ++ vput e.v.toNat) ++ (vput e.i.toNat ++ (e.x ++ z)) := by simp [putB, hn, putNs]
    have n2 := rnx_put (most := 1073741824) c2 rfl (by omega) (by omega)
    simp only [List.length_append, List.length_cons, List.length_nil, Nat.zero_add] at n1 n2
    simp only [hk', n1, n2, if_true, if_neg (show ¬ (2 : Nat) = 1 by decide)]
    rw [hv, Int.toNat_of_nonneg (show 0 ≤ e.i by omega)]
    obtain ⟨a1, a2, a3, a4, a5, a6, a7, a8⟩ := e
    simp only at hk
    subst hk
    obtain rfl : a4 = 0 := congrArg Ent.t q2
    obtain rfl : a5 = 0 := congrArg Ent.f q2
    obtain rfl : a6 = 0 := congrArg Ent.o q2
    obtain rfl : a7 = 0 := congrArg Ent.u q2
    obtain rfl : a8 = [] := congrArg Ent.x q2
    rfl
  · have hk' : ((putB e ++ z).headD 0).toNat = 3 := by rw [hhd, hk]; rfl
    simp only [List.length_cons, List.length_nil, Nat.zero_add] at n1
    simp only [hk', n1, if_neg (show ¬ (3 : Nat) = 1 by decide), if_neg (show ¬ (3 : Nat) = 2 by decide), if_neg (show ¬ (3 : Nat) = 4 by decide)]
    rw [hv]
    have q2 := (h3 hk).2
    obtain ⟨a1, a2, a3, a4, a5, a6, a7, a8⟩ := e
    simp only at hk
    subst hk
    obtain rfl : a3 = 0 := congrArg Ent.i q2
    obtain rfl : a4 = 0 := congrArg Ent.t q2
    obtain rfl : a5 = 0 := congrArg Ent.f q2
    obtain rfl : a6 = 0 := congrArg Ent.o q2
    obtain rfl : a7 = 0 := congrArg Ent.u q2
    obtain rfl : a8 = [] := congrArg Ent.x q2
    rfl
  · have hk' : ((putB e ++ z).headD 0).toNat = 4 := by rw [hhd, hk]; rfl
    obtain ⟨x0, q2, _⟩ := h4 hk
    have hn : nums e = [e.x.length] := by simp [nums, hk]
    have c2 : putB e ++ z = ([UInt8.ofNat e.k.toNat] ++ vput e.v.toNat) ++ (vput e.x.length ++ (e.x ++ z)) := by simp [putB, hn, putNs]
    have n2 := rnum_put c2 rfl (by omega)
    have hl : (putB e ++ z).length = 1 + (vput e.v.toNat).length + (vput e.x.length).length + (e.x.length + z.length) := by rw [c2]; simp; omega
    have hd : (putB e ++ z).drop (1 + (vput e.v.toNat).length + (vput e.x.length).length) = e.x ++ z := by
      rw [c2, ← List.append_assoc, List.drop_left']
      simp
      omega
    simp only [List.length_append, List.length_cons, List.length_nil, Nat.zero_add] at n1 n2
    have hr : rtext (putB e ++ z) e.x.length (1 + (vput e.v.toNat).length + (vput e.x.length).length) false = (e.x, 1 + (vput e.v.toNat).length + (vput e.x.length).length + e.x.length, false) := by
      unfold rtext
      rw [if_neg (by rw [hl]; simp), hd, List.take_left]
    simp only [hk', n1, n2, hr, if_neg (show ¬ (4 : Nat) = 1 by decide), if_neg (show ¬ (4 : Nat) = 2 by decide), if_true]
    rw [hv]
    obtain ⟨a1, a2, a3, a4, a5, a6, a7, a8⟩ := e
    simp only at hk
    subst hk
    obtain rfl : a3 = 0 := congrArg Ent.i q2
    obtain rfl : a4 = 0 := congrArg Ent.t q2
    obtain rfl : a5 = 0 := congrArg Ent.f q2
    obtain rfl : a6 = 0 := congrArg Ent.o q2
    obtain rfl : a7 = 0 := congrArg Ent.u q2
    rfl

theorem getE_more {e : Ent} (h : mayE e = true) (hw : EWf e) {z : Bs} (hz : z ≠ []) : getE (putB e ++ z) = none := by
  cases hg : getE (putB e ++ z) with
  | none => rfl
  | some e' =>
    obtain ⟨hm, hb⟩ := getE_back hg
    have h1 := rgetF_app h hw z
    have h2 := rgetF_app hm (getE_wf hg) []
    rw [List.append_nil, ← hb, h1] at h2
    have : e = e' := congrArg Prod.fst h2
    rw [← this] at hb
    have := congrArg List.length hb
    rw [List.length_append] at this
    have := List.length_pos_iff.2 hz
    omega

theorem getE_less {e : Ent} (h : mayE e = true) (hw : EWf e) {k : Nat} (hk : k < (putB e).length) : getE ((putB e).take k) = none := by
  cases hg : getE ((putB e).take k) with
  | none => rfl
  | some e' =>
    obtain ⟨hm, hb⟩ := getE_back hg
    have h1 := rgetF_app h hw []
    have h2 := rgetF_app hm (getE_wf hg) ((putB e).drop k)
    rw [← hb, List.take_append_drop] at h2
    rw [List.append_nil, h2] at h1
    have : e' = e := congrArg Prod.fst h1
    rw [this] at hb
    have := congrArg List.length hb
    rw [List.length_take] at this
    omega

/-- One byte turned: another entry, or none. -/
theorem getE_turn {e e' : Ent} (h : mayE e = true) (hw : EWf e) {k : Nat} {c : UInt8} (hk : k < (putB e).length) (hg : getE ((putB e).set k c) = some e') : decide (e' = e) = decide (c = (putB e)[k]) := by
  obtain ⟨hm, hb⟩ := getE_back hg
  by_cases hc : c = (putB e)[k]
  · rw [hc, List.set_getElem_self, getE_putB h hw] at hg
    cases hg
    rw [decide_eq_true rfl, decide_eq_true hc]
  · rw [decide_eq_false hc]
    refine decide_eq_false fun he => hc ?_
    rw [he] at hb
    have := congrArg (fun l => l[k]?) hb
    simp only [List.getElem?_set_self hk, List.getElem?_eq_getElem hk] at this
    exact Option.some.inj this
end Go.Proofs.YtlhbidbdmdcdeaaGreatDoor

/-
  Are entries few? And entries as arguments. No conditions but those named in each line.
-/
namespace Go.Proofs.YtlhbidbdmdcdeaaGreatDoor
open Go Go.Abs Go.Abs.F
set_option linter.unusedVariables false

def fewP (l : List Ent) : Bool := l.all (fun e => decide (e.x.length ≤ 400)) && decide (l.length ≤ 60)

section
variable {s : St} {x : S} {l : List Ent}

theorem lenS_of {e n : Nat} {vs : List S} (h : Rd e s x n vs) : lenS (Z x) = n := by
  rcases h.rd with ⟨rfl, rfl | ⟨c, g, rfl⟩ | ⟨c, o, cap, rfl⟩⟩ | ⟨c, o, cap, w, rows, rfl, _⟩ <;> rfl

theorem few_run (d : Nat) (h : RE s x l) (hl : l.length < 9223372036854775808) : R (d + 1) 18 [Z x] s = some (B (fewP l), s) := by
  refine runQ_prim ?_
  have e1 : toldP 17 true 18 [Z x] s = none := by simp [toldP]
  have e2 : toldP 29 true 18 [Z x] s = none := by simp [toldP]
  refine (orP_right e1).trans ((orP_right e2).trans (orP_left (orP_left ?_)))
  have hc : [18].contains 18 = true := by decide
  simp only [bigP, hc]
  have hN : lenS (([Z x] : List T).headD .any) + 8 = l.length + 8 := by
    show lenS (Z x) + 8 = _
    rw [lenS_of h]
  rw [hN, (runQ_body rfl Tryz.func18 (by kernel_rfl)).trans (f18_eq _ _ _ _)]
  unfold f18
  have hll := h.lens
  obtain ⟨j, τ, lp, hj, rfl⟩ := loops_inv (f := f18_l1 (runQ Tryz.prog (l.length + 8) noPrim 0) (l.length + 8)) (fun q v u => ∃ k : Nat, q + k = l.length ∧ v = [Z x, I .i64 (k : Nat)] ∧ u = s ∧ (l.take k).all (fun e => decide (e.x.length ≤ 400)) = true)
    (fun j u => (j = .exit 0 [Z x] ∧ l.all (fun e => decide (e.x.length ≤ 400)) = true ∨ j = .ret (B false) ∧ l.all (fun e => decide (e.x.length ≤ 400)) = false) ∧ u = s) (by
    rintro q v u ⟨k, hk, rfl, rfl, ha⟩
    by_cases hkl : k < l.length
    · have hg : l[k]? = some l[k] := List.getElem?_eq_getElem hkl
      obtain ⟨c, p, ix, ld, _⟩ := Rd.at h (i := ((k : Nat) : Int)) rfl hkl
      have l7 := ld 7 (.str l[k].x) (by omega) (by rw [cells_get cE_len hg (by omega)]; rfl)
      have fa : aFieldAddr 7 (Z (.ptr c p)) = some (Z (.ptr c (p + 7))) := rfl
      have sl : aLenStr (Z (.str l[k].x)) = some (I .i64 ((l[k].x.length : Nat) : Int)) := rfl
      have c0 : ((k : Nat) : Int) < ((l.length : Nat) : Int) := by omega
      have w1 : IntKind.i64.wrap ((k : Int) + 1) = ((k + 1 : Nat) : Int) := by rw [wrap_in _ (by omega) (by omega)]; omega
      by_cases hx : l[k].x.length ≤ 400
      · left
        have c1 : ¬ (400 : Int) < ((l[k].x.length : Nat) : Int) := by omega
        refine ⟨[Z x, I .i64 ((k + 1 : Nat) : Int)], u, q - 1, ?_, by omega, k + 1, by omega, rfl, rfl, ?_⟩
        · unfold f18_l1
          generalize ((k + 1 : Nat) : Int) = K1 at *
          generalize ((k : Nat) : Int) = K at *
          generalize ((l.length : Nat) : Int) = L at *
          generalize ((l[k].x.length : Nat) : Int) = X at *
          simp [hll, c0, ix, fa, l7, sl, c1, w1]
        · rw [List.take_add_one, hg]
          simp only [Option.toList, List.all_append, ha, Bool.true_and, List.all_cons, List.all_nil, Bool.and_true]
          exact decide_eq_true hx
      · right
        have c1 : (400 : Int) < ((l[k].x.length : Nat) : Int) := by omega
        refine ⟨.ret (B false), u, ?_, (fun v hv => by cases hv), .inr ⟨rfl, ?_⟩, rfl⟩
        · unfold f18_l1
          generalize ((k : Nat) : Int) = K at *
          generalize ((l.length : Nat) : Int) = L at *
          generalize ((l[k].x.length : Nat) : Int) = X at *
          simp [hll, c0, ix, fa, l7, sl, c1]
        · rw [List.all_eq_false]
          exact ⟨l[k], List.getElem_mem hkl, by simpa using hx⟩
    · right
      have hk' : k = l.length := by omega
      subst hk'
      rw [List.take_length] at ha
      refine ⟨.exit 0 [Z x], u, ?_, (fun v hv => by cases hv), .inl ⟨rfl, ha⟩, rfl⟩
      unfold f18_l1
      simp [hll]) (l.length + 8) l.length [Z x, I .i64 0] s ⟨0, rfl, rfl, rfl, by simp⟩ (by omega)
  rcases hj with ⟨rfl, ha⟩ | ⟨rfl, ha⟩
  · have hd : decide (((l.length : Nat) : Int) ≤ 60) = decide (l.length ≤ 60) := decide_eq_decide.2 (by omega)
    have hf : fewP l = decide (l.length ≤ 60) := by unfold fewP; rw [ha]; rfl
    rw [hf, ← hd]
    generalize ((l.length : Nat) : Int) = L at *
    simp [lp, hll]
  · have hf : fewP l = false := by unfold fewP; rw [ha]; rfl
    rw [hf]
    simp [lp]

theorem KS_str {y : S} (h : KS .str y) : ∃ b, y = .str b := by
  cases y <;> first | exact ⟨_, rfl⟩ | exact h.elim

theorem ent_row {r : List S} (h : All2 KS [.int .i64, .int .i64, .int .i64, .int .i64, .int .i64, .int .i64, .int .u32, .str] r) : ∃ e : Ent, r = cE e ∧ EWf e := by
  cases h with
  | cons h1 h =>
    cases h with
    | cons h2 h =>
      cases h with
      | cons h3 h =>
        cases h with
        | cons h4 h =>
          cases h with
          | cons h5 h =>
            cases h with
            | cons h6 h =>
              cases h with
              | cons h7 h =>
                cases h with
                | cons h8 h =>
                  cases h
                  obtain ⟨a1, rfl, _⟩ := KS.int h1
                  obtain ⟨a2, rfl, _⟩ := KS.int h2
                  obtain ⟨a3, rfl, _⟩ := KS.int h3
                  obtain ⟨a4, rfl, _⟩ := KS.int h4
                  obtain ⟨a5, rfl, _⟩ := KS.int h5
                  obtain ⟨a6, rfl, _⟩ := KS.int h6
                  obtain ⟨a7, rfl, w⟩ := KS.int h7
                  obtain ⟨a8, rfl⟩ := KS_str h8
                  have w2 : IntKind.u32.min ≤ a7 ∧ a7 ≤ IntKind.u32.max := by simpa [Lit.wf] using w
                  have w3 : (0 : Int) ≤ a7 ∧ a7 ≤ 4294967295 := w2
                  exact ⟨⟨a1, a2, a3, a4, a5, a6, a7, a8⟩, rfl, w3.1, by show a7 < 4294967296; omega⟩

theorem ent_rows : ∀ {rows : List (List S)}, (∀ r ∈ rows, All2 KS [.int .i64, .int .i64, .int .i64, .int .i64, .int .i64, .int .i64, .int .u32, .str] r) → ∃ l : List Ent, rows = l.map cE ∧ ∀ e ∈ l, EWf e
  | [], _ => ⟨[], rfl, fun e h => by cases h⟩
  | r :: rows, h => by
    obtain ⟨e, rfl, w⟩ := ent_row (h r List.mem_cons_self)
    obtain ⟨l, rfl, ws⟩ := ent_rows (rows := rows) fun q hq => h q (List.mem_cons_of_mem _ hq)
    exact ⟨e :: l, rfl, fun q hq => by
      rcases List.mem_cons.1 hq with rfl | hq
      · exact w
      · exact ws q hq⟩

theorem slEnts {a : T} {c : Nat} {rows : List (List S)} (ha : SlOf a c rows) (hr : ∀ r ∈ rows, All2 KS [.int .i64, .int .i64, .int .i64, .int .i64, .int .i64, .int .i64, .int .u32, .str] r) (hb : s.get c = some (argBlk rows.flatten)) :
    ∃ x, ∃ l : List Ent, a = Z x ∧ RE s x l ∧ (∀ d, own x = some d → d = c) ∧ (∀ e ∈ l, EWf e) ∧ l.length = rows.length := by
  obtain ⟨l, h1, h2⟩ := ent_rows hr
  obtain ⟨x, rfl, h3, h4⟩ := slRd ha (e := 8) (by decide) (fun r h => (forall2_length (hr r h)).symm) hb
  refine ⟨x, l, rfl, ?_, h4, h2, by rw [h1, List.length_map]⟩
  rw [h1, List.length_map] at h3
  exact h3
end
end Go.Proofs.YtlhbidbdmdcdeaaGreatDoor

/-
  LogMeets: two rows meet as far as they are one. No conditions but those named in each line.
-/
namespace Go.Proofs.YtlhbidbdmdcdeaaGreatDoor
open Go Go.Abs Go.Abs.F
set_option linter.unusedVariables false

theorem meetP_comm : ∀ a b : List Ent, meetP a b = meetP b a
  | [], [] => rfl
  | [], b :: t => rfl
  | a :: r, [] => rfl
  | a :: r, b :: t => by
    show (if a = b then _ else 0) = (if b = a then _ else 0)
    by_cases h : a = b
    · rw [if_pos h, if_pos h.symm, meetP_comm r t]
    · rw [if_neg h, if_neg fun e => h e.symm]

theorem meetP_stop : ∀ (a b : List Ent) (x y : Ent), a[meetP a b]? = some x → b[meetP a b]? = some y → x ≠ y
  | [], b, x, y, h, _ => by simp [meetP] at h
  | a :: r, [], x, y, _, h => by simp [meetP] at h
  | a :: r, b :: t, x, y, h, k => by
    by_cases e : a = b
    · have : meetP (a :: r) (b :: t) = meetP r t + 1 := by show (if a = b then _ else 0) = _; rw [if_pos e]
      rw [this] at h k
      exact meetP_stop r t x y (by simpa using h) (by simpa using k)
    · have : meetP (a :: r) (b :: t) = 0 := by show (if a = b then _ else 0) = _; rw [if_neg e]
      rw [this] at h k
      simp at h k
      rw [← h, ← k]
      exact e

theorem meetP_upto : ∀ a b : List Ent, meetP (a.take (meetP a b)) b = meetP a b
  | [], b => by simp [meetP]
  | a :: r, [] => by simp [meetP]
  | a :: r, b :: t => by
    by_cases e : a = b
    · have h : meetP (a :: r) (b :: t) = meetP r t + 1 := by show (if a = b then _ else 0) = _; rw [if_pos e]
      rw [h, List.take_succ_cons]
      show (if a = b then _ else 0) = _
      rw [if_pos e, meetP_upto r t]
    · have h : meetP (a :: r) (b :: t) = 0 := by show (if a = b then _ else 0) = _; rw [if_neg e]
      rw [h]
      simp [meetP]

section
variable {s t : St} {x y : S} {l m : List Ent}

theorem meets_run (d : Nat) (wf : s.wf) {is js : List Int} {cut : Int} (hx : Rd 1 s x is.length (I64 is)) (hox : ∀ c, own x = some c → c < s.size) (hy : Rd 1 s y js.length (I64 js)) (hoy : ∀ c, own y = some c → c < s.size) :
    ∃ t, R (d + 12) 7 [Z x, Z y, I .i64 cut] s = some (B true, t) := by
  rw [f7_run]
  unfold f7
  obtain ⟨_, _, hl⟩ := rowsE_may is
  obtain ⟨_, _, hm⟩ := rowsE_may js
  obtain ⟨a, s1, e1, f1⟩ := rows_run (d + 10) wf hx hox
  obtain ⟨b, s2, e2, f2⟩ := rows_run (d + 10) f1.gr.wf (hy.gr hoy f1.gr) (fun c hc => Nat.lt_of_lt_of_le (hoy c hc) f1.gr.2.1)
  generalize rowsE is = l at *
  generalize rowsE js = m at *
  have oa : ∀ c, own a = some c → c < s2.size := fun c hc => Nat.lt_of_lt_of_le (f1.new c hc).2 f2.gr.2.1
  have ob : ∀ c, own b = some c → c < s2.size := fun c hc => (f2.new c hc).2
  have ra : RE s2 a l := Rd.gr f1.rd (fun c hc => (f1.new c hc).2) f2.gr
  have rb : RE s2 b m := f2.rd
  have la := ra.lens
  have lb := rb.lens
  have up : ∀ {x : S} {u : St}, Gr s2 u → (∀ c, own x = some c → c < s2.size) → ∀ c, own x = some c → c < u.size := fun g h c hc => Nat.lt_of_lt_of_le (h c hc) g.2.1
  obtain ⟨s3, e3, g3⟩ := meet_run (d + 9) f2.gr.wf ra oa rb ob (by omega)
  obtain ⟨le1, le2⟩ := meetP_le l m
  obtain ⟨p, p1, rp, op⟩ := RE_upto (ra.gr oa g3) (k := meetP l m) le1
  obtain ⟨s4, e4, g4⟩ := front_run (d + 8) g3.wf rp (own_lt op (up g3 oa)) (rb.gr ob g3) (up g3 ob) (by rw [List.length_take]; omega)
  have h4 : (l.take (meetP l m)).length = meetP l m := by rw [List.length_take]; omega
  rw [meetP_upto, h4, decide_eq_true rfl] at e4
  have g24 := g3.trans g4
  obtain ⟨s5, e5, g5⟩ := meet_run (d + 9) g4.wf (rb.gr ob g24) (up g24 ob) (ra.gr oa g24) (up g24 oa) (by omega)
  rw [meetP_comm m l] at e5
  have g25 := g24.trans g5
  obtain ⟨k, hk, _, c1, c2, r1, c3⟩ := mod_run cut (n := l.length + 1) (by omega) (by omega)
  have w1 : IntKind.i64.wrap ((l.length : Int) + 1) = ((l.length + 1 : Nat) : Int) := by rw [wrap_in _ (by omega) (by omega)]; omega
  have tl5 := fun st => told10_run (d + 10) st
  obtain ⟨q, p2, rq, oq⟩ := RE_upto (ra.gr oa g25) (k := k) (by omega)
  have hq : (l.take k).length = k := by rw [List.length_take]; omega
  obtain ⟨s6, e6, g6⟩ := front_run (d + 8) g5.wf rq (own_lt oq (up g25 oa)) (ra.gr oa g25) (up g25 oa) (by rw [List.length_take]; omega)
  rw [meetP_take, decide_eq_true rfl] at e6
  have g26 := g25.trans g6
  have oq5 := own_lt oq (up g25 oa)
  obtain ⟨s7, e7, g7⟩ := meet_run (d + 9) g6.wf (rq.gr oq5 g6) (fun c hc => Nat.lt_of_lt_of_le (oq5 c hc) g6.2.1) (ra.gr oa g26) (up g26 oa) (by rw [List.length_take]; omega)
  rw [meetP_take, hq] at e7
  have g27 := g26.trans g7
  obtain ⟨s8, e8, g8⟩ := front_run (d + 8) g7.wf (ra.gr oa g27) (up g27 oa) (rb.gr ob g27) (up g27 ob) (by omega)
  have d8 : decide (((meetP l m : Nat) : Int) = ((l.length : Nat) : Int)) = decide (meetP l m = l.length) := decide_eq_decide.2 (by omega)
  have hstop := meetP_stop l m
  have n1 : ¬ ((l.length : Nat) : Int) < ((meetP l m : Nat) : Int) := by omega
  have n2 : ¬ ((m.length : Nat) : Int) < ((meetP l m : Nat) : Int) := by omega
  have atl : meetP l m < l.length → meetP l m < m.length → ∃ p p' v v', aIndexSl 8 (Z a) (I .i64 (meetP l m : Nat)) = some p ∧ aLoadN 8 p s4.get = some (AE v) ∧ aIndexSl 8 (Z b) (I .i64 (meetP l m : Nat)) = some p' ∧ aLoadN 8 p' s4.get = some (AE v') ∧ decide (v = v') = false := fun h h' => by
    obtain ⟨p, i1, j1⟩ := RE.atE (ra.gr oa g24) (n := ((meetP l m : Nat) : Int)) rfl (List.getElem?_eq_getElem h)
    obtain ⟨p', i2, j2⟩ := RE.atE (rb.gr ob g24) (n := ((meetP l m : Nat) : Int)) rfl (List.getElem?_eq_getElem h')
    exact ⟨p, p', _, _, i1, j1, i2, j2, decide_eq_false (hstop _ _ (List.getElem?_eq_getElem h) (List.getElem?_eq_getElem h'))⟩
  have hlt1 : decide (((meetP l m : Nat) : Int) < ((l.length : Nat) : Int)) = decide (meetP l m < l.length) := decide_eq_decide.2 (by omega)
  have hlt2 : decide (((meetP l m : Nat) : Int) < ((m.length : Nat) : Int)) = decide (meetP l m < m.length) := decide_eq_decide.2 (by omega)
  simp only [Nat.add_assoc, Nat.reduceAdd] at e1 e2 e3 e4 e5 e6 e7 e8 tl5
  refine ⟨s8, ?_⟩
  rw [← d8] at e8
  have eqn := eqBE
  generalize ((l.length + 1 : Nat) : Int) = L1 at *
  generalize R (d + 11) = r at *
  by_cases k1 : meetP l m < l.length
  · rw [decide_eq_true k1] at hlt1
    by_cases k2 : meetP l m < m.length
    · rw [decide_eq_true k2] at hlt2
      obtain ⟨i, i', v, v', i1, j1, i2, j2, ne⟩ := atl k1 k2
      generalize ((meetP l m : Nat) : Int) = M at *
      generalize ((l.length : Nat) : Int) = L at *
      generalize ((m.length : Nat) : Int) = LM at *
      generalize ((k : Nat) : Int) = KK at *
      generalize ((rowK cut : Nat) : Int) = RK at *
      simp [e1, e2, e3, la, lb, n1, n2, p1, e4, hlt1, hlt2, i1, j1, i2, j2, eqn, ne, e5, c1, w1, c2, r1, c3, tl5, p2, e6, e7, e8]
    · rw [decide_eq_false k2] at hlt2
      clear atl
      generalize ((meetP l m : Nat) : Int) = M at *
      generalize ((l.length : Nat) : Int) = L at *
      generalize ((m.length : Nat) : Int) = LM at *
      generalize ((k : Nat) : Int) = KK at *
      generalize ((rowK cut : Nat) : Int) = RK at *
      simp [e1, e2, e3, la, lb, n1, n2, p1, e4, hlt1, hlt2, e5, c1, w1, c2, r1, c3, tl5, p2, e6, e7, e8]
  · rw [decide_eq_false k1] at hlt1
    clear atl
    generalize ((meetP l m : Nat) : Int) = M at *
    generalize ((l.length : Nat) : Int) = L at *
    generalize ((m.length : Nat) : Int) = LM at *
    generalize ((k : Nat) : Int) = KK at *
    generalize ((rowK cut : Nat) : Int) = RK at *
    simp [e1, e2, e3, la, lb, n1, n2, p1, e4, hlt1, e5, c1, w1, c2, r1, c3, tl5, p2, e6, e7, e8]
end
end Go.Proofs.YtlhbidbdmdcdeaaGreatDoor

/-
  LogMore: what is put behind is read behind; what is broken ends the reading. No conditions but those named in each line.
-/
namespace Go.Proofs.YtlhbidbdmdcdeaaGreatDoor
open Go Go.Abs Go.Abs.F
set_option linter.unusedVariables false

theorem readL_on {bs : Bs} : ∀ (f at_ : Nat) (acc : List Ent), ∃ m to, readL bs f at_ acc = (acc ++ m, to) ∧ at_ ≤ to
  | 0, at_, acc => ⟨[], at_, by simp [readL], Nat.le_refl _⟩
  | f + 1, at_, acc => by
    unfold readL
    cases ho : openB bs at_ with
    | none => exact ⟨[], at_, by simp, Nat.le_refl _⟩
    | some pe =>
      obtain ⟨p, e⟩ := pe
      have he := (openB_back ho).1
      simp only
      cases hg : getE p with
      | none => exact ⟨[], at_, by simp, Nat.le_refl _⟩
      | some en =>
        obtain ⟨m, to, h1, h2⟩ := readL_on (bs := bs) f e (acc ++ [en])
        exact ⟨en :: m, to, by simp only; rw [h1, List.append_assoc]; rfl, by omega⟩

theorem vput_zero {n : Nat} {r : Bs} (h : vput n = 0 :: r) : n = 0 := by
  unfold vput putN at h
  split at h
  · have := congrArg (fun l : Bs => (l.headD 1).toNat) h
    simp only [List.headD_cons] at this
    rw [byte_nat] at this
    simp at this
    omega
  · have := congrArg (fun l : Bs => (l.headD 1).toNat) h
    simp only [List.headD_cons] at this
    rw [byte_nat] at this
    simp at this
    omega

theorem vput_ne (n : Nat) : vput n ≠ [] := by
  unfold vput putN
  split <;> simp

/-- Where a zero stands no frame is read. -/
theorem readL_zero {bs q : Bs} {f at_ : Nat} {acc : List Ent} (h : bs.drop at_ = 0 :: q) : readL bs f at_ acc = (acc, at_) := by
  cases f with
  | zero => rfl
  | succ f =>
    unfold readL
    cases ho : openB bs at_ with
    | none => rfl
    | some pe =>
      obtain ⟨p, e⟩ := pe
      obtain ⟨_, _, post, hp⟩ := openB_back ho
      rw [h] at hp
      have : p.length = 0 := by
        cases hv : vput p.length with
        | nil => exact absurd hv (vput_ne _)
        | cons c r =>
          have h1 : wrapB p = c :: (r ++ four (sumB 1 (vput p.length ++ p)) ++ p) := by
            rw [wrapB, hv]; simp
          rw [h1] at hp
          simp at hp
          rw [← hp.1] at hv
          exact vput_zero hv
      obtain rfl := List.eq_nil_of_length_eq_zero this
      rfl

theorem more_two {x y : List Ent} (hx : x.all mayE = true) (hy : y.all mayE = true) (wx : ∀ e ∈ x, EWf e) (wy : ∀ e ∈ y, EWf e) (hl : x.length + y.length ≤ 2000) :
    readP (framesB x ++ framesB y) = (x ++ y, (framesB x).length + (framesB y).length) := by
  have h := readP_frames (bs := framesB x ++ framesB y) (l := x ++ y) (post := []) (by simpa using hl) (by simp only [List.all_append, hx, hy]; rfl) (fun e he => by
    rcases List.mem_append.1 he with h | h
    · exact wx e h
    · exact wy e h) (by rw [framesB_append, List.append_nil])
  rw [readL_none (openB_end (by rw [framesB_append]; exact Nat.le_refl _)), framesB_append, List.length_append] at h
  exact h

theorem more_zero {x : List Ent} {q : Bs} (hx : x.all mayE = true) (wx : ∀ e ∈ x, EWf e) (hl : x.length ≤ 2000) : readP (framesB x ++ 0 :: q) = (x, (framesB x).length) := by
  rw [readP_frames (l := x) (post := 0 :: q) hl hx wx rfl, readL_zero (q := q) (by rw [List.drop_left])]

theorem more_any {x : List Ent} {q : Bs} (hx : x.all mayE = true) (wx : ∀ e ∈ x, EWf e) (hl : x.length ≤ 2000) : ∃ m to, readP (framesB x ++ q) = (x ++ m, to) ∧ (framesB x).length ≤ to := by
  rw [readP_frames (l := x) (post := q) hl hx wx rfl]
  exact readL_on _ _ _

theorem meetP_append (l m : List Ent) : meetP l (l ++ m) = l.length := by
  have := meetP_take (l ++ m) l.length
  rwa [List.take_left] at this

theorem readP_len (bs : Bs) : (readP bs).1.length ≤ 2000 := by
  suffices ∀ f at_ acc, (readL bs f at_ acc).1.length ≤ acc.length + f from by have := this 2000 0 []; rw [List.length_nil, Nat.zero_add] at this; exact this
  intro f
  induction f with
  | zero => intro at_ acc; exact Nat.le_refl _
  | succ f ih =>
    intro at_ acc
    unfold readL
    split
    · simp
    · split
      · simp
      · have := ih ‹Nat› (acc ++ [‹Ent›])
        simp at this
        omega

section
variable {s t : St} {x y : S} {l m : List Ent} {bs : Bs}

theorem more_run' (d : Nat) (wf : s.wf) {z : S} {is js : List Int} (hx : Rd 1 s x is.length (I64 is)) (hox : ∀ c, own x = some c → c < s.size) (hy : Rd 1 s y js.length (I64 js)) (hoy : ∀ c, own y = some c → c < s.size)
    (hz : RB s z bs) (hoz : ∀ c, own z = some c → c < s.size) : ∃ t, R (d + 12) 8 [Z x, Z y, Z z] s = some (B true, t) := by
  rw [f8_run]
  unfold f8
  have tl5 := fun st => told10_run (d + 10) st
  have lz := hz.lenB
  by_cases hb : 20 < bs.length
  · have c0 : (20 : Int) < ((bs.length : Nat) : Int) := by omega
    refine ⟨s, ?_⟩
    simp only [Nat.add_assoc, Nat.reduceAdd] at tl5
    generalize ((bs.length : Nat) : Int) = BL at *
    generalize R (d + 11) = r at *
    simp [lz, c0, tl5]
  · have c0 : ¬ (20 : Int) < ((bs.length : Nat) : Int) := by omega
    obtain ⟨al, wl, hl⟩ := rowsE_may is
    obtain ⟨am, wm, hm⟩ := rowsE_may js
    have fl := rowsE_len is
    have fm := rowsE_len js
    obtain ⟨a, s1, e1, f1⟩ := rows_run (d + 10) wf hx hox
    obtain ⟨b, s2, e2, f2⟩ := rows_run (d + 10) f1.gr.wf (hy.gr hoy f1.gr) (fun c hc => Nat.lt_of_lt_of_le (hoy c hc) f1.gr.2.1)
    generalize rowsE is = l at *
    generalize rowsE js = m at *
    have oa : ∀ c, own a = some c → c < s2.size := fun c hc => Nat.lt_of_lt_of_le (f1.new c hc).2 f2.gr.2.1
    have ob : ∀ c, own b = some c → c < s2.size := fun c hc => (f2.new c hc).2
    have ra : RE s2 a l := Rd.gr f1.rd (fun c hc => (f1.new c hc).2) f2.gr
    have rb : RE s2 b m := f2.rd
    have la := ra.lens
    have lb := rb.lens
    have up : ∀ {x : S} {v u : St}, Gr v u → (∀ c, own x = some c → c < v.size) → ∀ c, own x = some c → c < u.size := fun g h c hc => Nat.lt_of_lt_of_le (h c hc) g.2.1
    obtain ⟨p, s3, e3, f3⟩ := all_run d f2.gr.wf ra oa wl (by omega)
    rw [allP_may al (by omega)] at e3 f3
    obtain ⟨q, s4, e4, f4⟩ := all_run d f3.gr.wf (rb.gr ob f3.gr) (up f3.gr ob) wm (by omega)
    rw [allP_may am (by omega)] at e4 f4
    simp only [resA] at e3 e4
    have op : ∀ c, own p = some c → c < s4.size := fun c hc => Nat.lt_of_lt_of_le (f3.new c hc).2 f4.gr.2.1
    have oq : ∀ c, own q = some c → c < s4.size := fun c hc => (f4.new c hc).2
    have rp : RB s4 p (framesB l) := Rd.gr f3.rd (fun c hc => (f3.new c hc).2) f4.gr
    have rq : RB s4 q (framesB m) := f4.rd
    have lp := rp.lenB
    have lq := rq.lenB
    have g24 := f3.gr.trans f4.gr
    -- an empty slice, with p and what follows put behind it
    have cat : ∀ u : St, Gr s4 u → ∃ u1 x1 u2, aNew u (nSlice 0 (aFill [] [])) = some (Z (.sl u.size 0 0 (.known 0)), u1) ∧ aAppend 1 1 (Z (.sl u.size 0 0 (.known 0))) (Z p) u1 = some (Z x1, u2) ∧ FB u u2 x1 (framesB l) := fun u g => by
      have F := Fr.lit 1 g.wf (n := 0) (vs := []) rfl
      have F' : FB u (u.push (.cells true [])) (.sl u.size 0 0 (.known 0)) [] := F
      obtain ⟨x1, u2, e, f, _⟩ := FB.app F' (rp.gr op (g.trans F.gr)) (by simp; omega)
      exact ⟨_, x1, u2, rfl, e, by simpa using f⟩
    obtain ⟨u1, x1, u2, n1, p1, F1⟩ := cat s4 (Gr.refl f4.gr.wf)
    obtain ⟨x2, u3, p2, F2, _⟩ := FB.app F1 (rq.gr oq F1.gr) (by omega)
    obtain ⟨r1, u4, e5, R1⟩ := read_run' d F2.gr.wf F2.rd (fun c hc => (F2.new c hc).2) (by simp; omega)
    rw [more_two al am wl wm (by omega)] at e5 R1
    simp only [resR] at e5
    have g4a := F2.gr.trans R1.gr
    have l5 := (R1.rd : RE u4 r1 (l ++ m)).lens
    rw [List.length_append] at l5
    have ga := g24.trans g4a
    obtain ⟨u5, e6, g6⟩ := front_run (d + 8) R1.gr.wf (ra.gr oa ga) (up ga oa) (R1.rd : RE u4 r1 (l ++ m)) (fun c hc => (R1.new c hc).2) (by omega)
    rw [meetP_append, decide_eq_true rfl] at e6
    have g4b := g4a.trans g6
    obtain ⟨u6, x3, u7, n2, p3, F3⟩ := cat u5 g4b
    obtain ⟨x4, u9, p4, F4, hz4, _⟩ := FB.lit (cs := [0]) F3 (by simp; omega)
    have nl : aNew u7 (nSlice 1 (aFill [.int .u8 0] [(0, 1, (I .u8 0))])) = some (Z (.sl u7.size 0 1 (.known 1)), u7.push (.cells true (U [0]))) := rfl
    have p4' : aAppend 1 1 (Z x3) (Z (.sl u7.size 0 1 (.known 1))) (u7.push (.cells true (U [0]))) = some (Z x4, u9) := p4
    obtain ⟨u8, hu8⟩ : ∃ u8, u8 = u7.push (.cells true (U [0])) := ⟨_, rfl⟩
    rw [← hu8] at nl p4'
    have gq4 := g4b.trans F4.gr
    obtain ⟨x5, u10, p5, F5, _⟩ := FB.app F4 (rq.gr oq gq4) (by simp; omega)
    obtain ⟨r2, u11, e7, R2⟩ := read_run' d F5.gr.wf F5.rd (fun c hc => (F5.new c hc).2) (by simp; omega)
    rw [List.append_assoc, List.singleton_append, more_zero al wl (by omega)] at e7 R2
    simp only [resR] at e7
    have g4c := (g4b.trans F5.gr).trans R2.gr
    have l7 := (R2.rd : RE u11 r2 l).lens
    obtain ⟨u12, x6, u13, n3, p6, F6⟩ := cat u11 g4c
    have gz := ((f1.gr.trans f2.gr).trans g24).trans ((g4c).trans F6.gr)
    obtain ⟨x7, u14, p7, F7, _⟩ := FB.app F6 (hz.gr hoz gz) (by omega)
    obtain ⟨r3, u15, e8, R3⟩ := read_run' d F7.gr.wf F7.rd (fun c hc => (F7.new c hc).2) (by simp; omega)
    obtain ⟨mm, to, hmm, hto⟩ := more_any (x := l) (q := bs) al wl (by omega)
    have hlen := readP_len (framesB l ++ bs)
    rw [hmm] at e8 R3 hlen
    simp only [resR] at e8
    have l8 := (R3.rd : RE u15 r3 (l ++ mm)).lens
    rw [List.length_append] at l8
    have g4d := (g4c.trans F7.gr).trans R3.gr
    have gaz := g24.trans g4d
    obtain ⟨u16, e9, g9⟩ := front_run (d + 8) R3.gr.wf (ra.gr oa gaz) (up gaz oa) (R3.rd : RE u15 r3 (l ++ mm)) (fun c hc => (R3.new c hc).2) (by omega)
    rw [meetP_append, decide_eq_true rfl] at e9
    have w1 : IntKind.i64.wrap (((framesB l).length : Int) + ((framesB m).length : Nat)) = (((framesB l).length + (framesB m).length : Nat) : Int) := by rw [wrap_in _ (by omega) (by omega)]; omega
    have w2 : IntKind.i64.wrap (((l.length : Nat) : Int) + ((m.length : Nat) : Int)) = ((l.length + m.length : Nat) : Int) := by rw [wrap_in _ (by omega) (by omega)]; omega
    have c1 : ((l.length : Nat) : Int) ≤ ((l.length + mm.length : Nat) : Int) := by omega
    have c2 : (((framesB l).length : Nat) : Int) ≤ ((to : Nat) : Int) := by omega
    have gax := gaz.trans g9
    have agg0 : asAggT (aFill [.int .i64 0, .int .i64 0, .int .i64 0, .int .i64 0, .int .i64 0, .int .i64 0, .int .u32 0, .str []] []) = some (AE ent0) := rfl
    simp only [Nat.add_assoc, Nat.reduceAdd] at e1 e2 e3 e4 e5 e6 e7 e8 e9 tl5
    refine ⟨u16, ?_⟩
    have nee := neBE
    by_cases hne : l = []
    · have zz : aBin .eql (I .i64 ((l.length : Nat) : Int)) (I .i64 0) = some (B true) := by rw [hne]; rfl
      have zz2 : ∀ n : Int, aBin .eql (I .i64 n) (I .i64 n) = some (B true) := fun n => by rw [eql_int, decide_eq_true rfl]
      clear hne
      generalize ((l.length + m.length : Nat) : Int) = LM at *
      generalize ((l.length + mm.length : Nat) : Int) = LMM at *
      generalize (((framesB l).length + (framesB m).length : Nat) : Int) = FLM at *
      generalize (((framesB l).length : Nat) : Int) = FL at *
      generalize (((framesB m).length : Nat) : Int) = FM at *
      generalize ((to : Nat) : Int) = TO at *
      generalize ((bs.length : Nat) : Int) = BL at *
      generalize ((m.length : Nat) : Int) = ML at *
      generalize ((l.length : Nat) : Int) = LL at *
      generalize R (d + 11) = r at *
      simp [-eql_int, lz, c0, e1, e2, e3, aExtract, e4, n1, p1, p2, e5, lp, lq, w1, l5, la, lb, w2, e6, n2, p3, nl, p4', p5, e7, n3, p6, p7, e8, tl5, l7, l8, c1, c2, e9, zz, zz2]
    · have h0 : 0 < l.length := List.length_pos_iff.2 hne
      have hm0 : mayE l[0] = true := by
        rw [List.all_eq_true] at al
        exact al _ (List.getElem_mem h0)
      have hd : decide (l[0] = ent0) = false := decide_eq_false fun e => by
        rw [e] at hm0
        revert hm0
        decide +kernel
      obtain ⟨i0, i1, i2⟩ := RE.atE (ra.gr oa gax) (j := 0) (n := 0) rfl (List.getElem?_eq_getElem h0)
      have z0 : ¬ ((l.length : Nat) : Int) = 0 := by omega
      generalize ((l.length + m.length : Nat) : Int) = LM at *
      generalize ((l.length + mm.length : Nat) : Int) = LMM at *
      generalize (((framesB l).length + (framesB m).length : Nat) : Int) = FLM at *
      generalize (((framesB l).length : Nat) : Int) = FL at *
      generalize (((framesB m).length : Nat) : Int) = FM at *
      generalize ((to : Nat) : Int) = TO at *
      generalize ((bs.length : Nat) : Int) = BL at *
      generalize ((m.length : Nat) : Int) = ML at *
      generalize ((l.length : Nat) : Int) = LL at *
      generalize R (d + 11) = r at *
      simp [lz, c0, e1, e2, e3, aExtract, e4, n1, p1, p2, e5, lp, lq, w1, l5, la, lb, w2, e6, n2, p3, nl, p4', p5, e7, n3, p6, p7, e8, tl5, l7, l8, c1, c2, e9, z0, i1, i2, agg0, nee, hd]
end
end Go.Proofs.YtlhbidbdmdcdeaaGreatDoor

/-
  LogMany: two thousand entries are put, not one more, and as many are read. No conditions but those named in each line.
-/
namespace Go.Proofs.YtlhbidbdmdcdeaaGreatDoor
open Go Go.Abs Go.Abs.F
set_option linter.unusedVariables false

def eM : Ent := { ent0 with k := 3, v := 1 }
theorem eM_may : mayE eM = true := by decide +kernel
theorem eM_wf : EWf eM := ⟨by decide, by decide⟩
theorem eM_len : (wrapB (putB eM)).length = 7 := by decide +kernel
theorem eM_two : (putB eM).length = 2 := by decide +kernel
theorem many_may (n : Nat) : (List.replicate n eM).all mayE = true := by
  rw [List.all_eq_true]
  intro x hx
  rw [(List.mem_replicate.1 hx).2]
  exact eM_may
theorem many_wf (n : Nat) : ∀ e ∈ List.replicate n eM, EWf e := fun x hx => by rw [(List.mem_replicate.1 hx).2]; exact eM_wf
theorem many_len : ∀ n, (framesB (List.replicate n eM)).length = 7 * n
  | 0 => rfl
  | n + 1 => by rw [List.replicate_succ, framesB, List.length_append, eM_len, many_len n]; omega
theorem many_cut (i n : Nat) : framesB (List.replicate (i + n) eM) = framesB (List.replicate i eM) ++ framesB (List.replicate n eM) := by
  rw [← framesB_append, List.replicate_append_replicate]

theorem many_open {k i : Nat} (h : i < k) : vget (framesB (List.replicate k eM)) (7 * i) = some (2, 7 * i + 1) ∧ openB (framesB (List.replicate k eM)) (7 * i) = some (putB eM, 7 * (i + 1)) := by
  have hb : framesB (List.replicate k eM) = framesB (List.replicate i eM) ++ (wrapB (putB eM) ++ framesB (List.replicate (k - i - 1) eM)) := by
    conv => lhs; rw [show k = i + ((k - i - 1) + 1) by omega, many_cut, List.replicate_succ, framesB]
  constructor
  · have := vget_vput (n := 2) (at_ := 7 * i) (pre := framesB (List.replicate i eM)) (post := four (sumB 1 (vput 2 ++ putB eM)) ++ putB eM ++ framesB (List.replicate (k - i - 1) eM)) (bs := framesB (List.replicate k eM))
      (by rw [hb, wrapB, eM_two]; simp) (many_len i).symm (by decide)
    rw [this]
    rfl
  · have := openB_wrap (at_ := 7 * i) hb (many_len i).symm (by rw [eM_two]; decide)
    rw [this, eM_len]
    rfl

theorem many_end {k : Nat} : vget (framesB (List.replicate k eM)) (7 * k) = none ∧ openB (framesB (List.replicate k eM)) (7 * k) = none := by
  have hl := many_len k
  refine ⟨?_, openB_end (by omega)⟩
  unfold vget
  rw [if_pos (by omega)]
  unfold getN
  rw [show (framesB (List.replicate k eM))[7 * k + 0]? = none from List.getElem?_eq_none (by omega)]

theorem many_read (k : Nat) : readP (framesB (List.replicate k eM)) = (List.replicate (min k 2000) eM, 7 * min k 2000) := by
  rw [readP_frames (l := List.replicate (min k 2000) eM) (post := framesB (List.replicate (k - min k 2000) eM)) (by rw [List.length_replicate]; omega) (many_may _) (many_wf _) (by rw [← many_cut]; congr 2; omega), many_len, List.length_replicate]
  by_cases h : k ≤ 2000
  · rw [Nat.min_eq_left h]
    exact readL_none many_end.2
  · rw [Nat.min_eq_right (by omega)]
    rfl

section
variable {s t : St} {x y : S} {l m : List Ent} {bs : Bs}

/-- Entries and bytes that grow side by side. -/
structure EB (s0 s : St) (o z : S) (l : List Ent) (bs : Bs) : Prop where
  out : FE s0 s o l
  byt : FB s0 s z bs
  ne : ∀ c, own o = some c → own z ≠ some c

theorem EB.lit {s0 : St} {o z : S} {e : Ent} (h : EB s0 s o z l bs) (hl : l.length ≤ 1000000) :
    ∃ x' t s', aNew s (nSlice 1 (aFill [.int .i64 0, .int .i64 0, .int .i64 0, .int .i64 0, .int .i64 0, .int .i64 0, .int .u32 0, .str []] [(0, 8, AE e)])) = some (Z (.sl s.size 0 1 (.known 1)), s') ∧ aAppend 8 72 (Z o) (Z (.sl s.size 0 1 (.known 1))) s' = some (Z x', t) ∧ EB s0 t x' z (l ++ [e]) bs := by
  obtain ⟨x', t, s', e1, e2, f, hz, hk, ho⟩ := FE.lit' (e := e) h.out hl
  refine ⟨x', t, s', e1, e2, f, Fr_other h.byt f.gr hz fun c hc => hk c (h.byt.new c hc).2 fun hh => h.ne c hh hc, fun c hc hy => ?_⟩
  rcases ho with h1 | h1 | ⟨c', h1, h2⟩
  · rw [h1] at hc; cases hc
  · rw [h1] at hc; exact h.ne c hc hy
  · rw [h1] at hc
    cases hc
    have := (h.byt.new c hy).2
    omega

theorem EB.app {s0 : St} {o z y : S} {cs : Bs} (h : EB s0 s o z l bs) (hy : RB s y cs) (hl : bs.length + cs.length ≤ 1000000) :
    ∃ z' t, aAppend 1 1 (Z z) (Z y) s = some (Z z', t) ∧ EB s0 t o z' l (bs ++ cs) := by
  obtain ⟨z', t, e1, f, hzz, hk, ho⟩ := FB.app' h.byt hy hl
  refine ⟨z', t, e1, Fr_other h.out f.gr hzz fun c hc => hk c (h.out.new c hc).2 fun hh => h.ne c hc hh, f, fun c hc hy' => ?_⟩
  rcases ho with h1 | h1 | ⟨c', h1, h2⟩
  · rw [h1] at hy'; cases hy'
  · rw [h1] at hy'; exact h.ne c hc hy'
  · rw [h1] at hy'
    cases hy'
    have := (h.out.new c hc).2
    omega

theorem many_run (d : Nat) (wf : s.wf) {n : Int} : ∃ t, R (d + 12) 3 [I .i64 n] s = some (B true, t) := by
  rw [f3_run]
  unfold f3
  have tl5 := fun st => told10_run (d + 10) st
  obtain ⟨y, hy, _, c1, _, r1, c3⟩ := mod_run n (n := 7) (by decide) (by decide)
  have r1' : aBin .rem (I .u64 (rowK n : Nat)) (I .u64 7) = some (I .u64 (y : Nat)) := r1
  obtain ⟨k, hk⟩ : ∃ k, k = 1997 + y := ⟨_, rfl⟩
  have w1 : IntKind.i64.wrap (1997 + (y : Int)) = ((k : Nat) : Int) := by rw [wrap_in _ (by omega) (by omega)]; omega
  have ag : asAggT (aFill [.int .i64 0, .int .i64 0, .int .i64 0, .int .i64 0, .int .i64 0, .int .i64 0, .int .u32 0, .str []] [(0, 1, (I .i64 3)), (1, 1, (I .i64 1))]) = some (AE eM) := rfl
  obtain ⟨s1, hs1⟩ : ∃ s1, s1 = s.push (.cells true (cE ent0)) := ⟨_, rfl⟩
  have nw : aNew s (nCells [.int .i64 0, .int .i64 0, .int .i64 0, .int .i64 0, .int .i64 0, .int .i64 0, .int .u32 0, .str []]) = some (Z (.ptr s.size 0), s1) := by rw [hs1]; rfl
  have b1 : s1.get s.size = some (.cells true (cE ent0)) := by rw [hs1]; exact St.get_push_same _ _
  have g1 : Gr s s1 := by rw [hs1]; exact Gr.push wf _
  obtain ⟨s2, hs2⟩ : ∃ s2, s2 = s1.set s.size (.cells true (cE eM)) := ⟨_, rfl⟩
  have st2 : aStore 8 (Z (.ptr s.size 0)) (AE eM) s1 = some (tt, s2) := by rw [hs2]; exact store8 b1 rfl
  have b2 : s2.get s.size = some (.cells true (cE eM)) := by rw [hs2]; exact St.get_set_same _ _ _
  have wf2 : s2.wf := by rw [hs2]; exact St.wf_set g1.wf (by rw [hs1]; simp) _
  have z2 : s.size < s2.size := by rw [hs2, hs1]; simp
  have ld2 := load8 b2
  obtain ⟨f, s3, e3, g3, F3⟩ := frame_run (d + 1) wf2 eM eM_wf
  have hf : frameE eM = some (wrapB (putB eM)) := by simp [frameE, eM_may]
  rw [hf] at e3
  have F3 := F3 _ hf
  simp only [resF] at e3
  have b3 : s3.get s.size = some (.cells true (cE eM)) := by rw [g3.2.2 _ z2]; exact b2
  have z3 : s.size < s3.size := Nat.lt_of_lt_of_le z2 g3.2.1
  have lf : aLenSl (Z f) = some (I .i64 7) := by
    have := F3.rd.lens
    rw [eM_len] at this
    exact this
  simp only [Nat.add_assoc, Nat.reduceAdd] at e3 tl5
  obtain ⟨j, τ, lp, o, z, hj, E⟩ := loops_inv (f := f3_l1 (R (d + 11)) 8192) (fun q v u => ∃ (i : Nat) (o z : S), q + i = k ∧ v = [I .i64 (k : Nat), Z (.ptr s.size 0), Z o, Z z, Z f, I .i64 0, I .i64 (i : Nat)] ∧ EB s3 u o z (List.replicate i eM) (framesB (List.replicate i eM)))
    (fun j u => ∃ o z, j = .exit 0 [I .i64 (k : Nat), Z o, Z z, Z f, I .i64 0] ∧ EB s3 u o z (List.replicate k eM) (framesB (List.replicate k eM))) (by
    rintro q v u ⟨i, o, z, hq, rfl, E⟩
    by_cases hi : i < k
    · left
      have c0 : ((i : Nat) : Int) < ((k : Nat) : Int) := by omega
      have w2 : IntKind.i64.wrap ((i : Int) + 1) = ((i + 1 : Nat) : Int) := by rw [wrap_in _ (by omega) (by omega)]; omega
      have bu : u.get s.size = some (.cells true (cE eM)) := by rw [E.out.gr.2.2 _ z3]; exact b3
      have ld := load8 bu
      obtain ⟨o', u2, u1, n1, p1, E1⟩ := EB.lit (e := eM) E (by rw [List.length_replicate]; omega)
      obtain ⟨z', u3, p2, E2⟩ := EB.app E1 (Rd.gr F3.rd (fun c hc => (F3.new c hc).2) E1.out.gr) (by rw [many_len, eM_len]; omega)
      have hr : List.replicate i eM ++ [eM] = List.replicate (i + 1) eM := by rw [List.replicate_succ']
      have hb : framesB (List.replicate i eM) ++ wrapB (putB eM) = framesB (List.replicate (i + 1) eM) := by rw [← hr, framesB_snoc]
      rw [hr, hb] at E2
      refine ⟨[I .i64 (k : Nat), Z (.ptr s.size 0), Z o', Z z', Z f, I .i64 0, I .i64 ((i + 1 : Nat) : Int)], u3, q - 1, ?_, by omega, i + 1, o', z', by omega, rfl, E2⟩
      unfold f3_l1
      generalize ((i + 1 : Nat) : Int) = I1 at *
      generalize ((i : Nat) : Int) = II at *
      generalize ((k : Nat) : Int) = K at *
      simp [c0, ld, n1, p1, p2, w2]
    · right
      obtain rfl : i = k := by omega
      refine ⟨.exit 0 [I .i64 (i : Nat), Z o, Z z, Z f, I .i64 0], u, ?_, (fun v hv => by cases hv), o, z, rfl, E⟩
      unfold f3_l1
      simp) 8192 k [I .i64 (k : Nat), Z (.ptr s.size 0), Z .nils, Z .nils, Z f, I .i64 0, I .i64 0] s3 ⟨0, .nils, .nils, rfl, rfl, Fr.nil 8 F3.gr.wf, Fr.nil 1 F3.gr.wf, fun c hc => by cases hc⟩ (by omega)
  subst hj
  obtain ⟨x, s4, e4, f4⟩ := all_run d E.out.gr.wf E.out.rd (fun c hc => (E.out.new c hc).2) (many_wf k) (by rw [List.length_replicate]; omega)
  have rz : RB s4 z (framesB (List.replicate k eM)) := Rd.gr E.byt.rd (fun c hc => (E.byt.new c hc).2) f4.gr
  obtain ⟨m, s5, e5, f5⟩ := read_run d f4.gr.wf rz (fun c hc => Nat.lt_of_lt_of_le (E.byt.new c hc).2 f4.gr.2.1) (by rw [many_len]; omega) (fun a => ∃ i, i ≤ k ∧ a = 7 * i) ⟨0, by omega, rfl⟩
    (fun a p e ⟨i, hi, ha⟩ ho => by
      subst ha
      by_cases h : i < k
      · rw [(many_open h).2] at ho
        cases ho
        exact ⟨i + 1, h, rfl⟩
      · obtain rfl : i = k := by omega
        rw [many_end.2] at ho
        cases ho)
    (fun a n to ⟨i, hi, ha⟩ ho => by
      subst ha
      by_cases h : i < k
      · rw [(many_open h).1] at ho
        cases ho
        exact .inr (by decide)
      · obtain rfl : i = k := by omega
        rw [many_end.1] at ho
        cases ho)
  rw [many_read] at e5 f5
  simp only [resR] at e5
  have lm : aLenSl (Z m) = some (I .i64 ((min k 2000 : Nat) : Int)) := by
    have := f5.rd.lens
    rw [List.length_replicate] at this
    exact this
  have mn : aFold aMin2 (I .i64 (k : Nat)) [I .i64 2000] = some (I .i64 ((min k 2000 : Nat) : Int)) := by
    have h : min ((k : Nat) : Int) 2000 = ((min k 2000 : Nat) : Int) := by omega
    rw [aFold_min, h]
  have ml : aBin .mul (I .i64 ((min k 2000 : Nat) : Int)) (I .i64 7) = some (I .i64 ((7 * min k 2000 : Nat) : Int)) := by
    have h : ((min k 2000 : Nat) : Int) * 7 = ((7 * min k 2000 : Nat) : Int) := by omega
    rw [mul_int, h, wrap_in _ (by omega) (by omega)]
  have sb : aBytesStr (Z z) s5.get = some (Z (.str (framesB (List.replicate k eM)))) := RB.str (rz.gr (fun c hc => Nat.lt_of_lt_of_le (E.byt.new c hc).2 f4.gr.2.1) f5.gr)
  have all1 := many_may k
  refine ⟨s5, ?_⟩
  by_cases hk2 : k ≤ 2000
  · have ha : allP (List.replicate k eM) = (framesB (List.replicate k eM), 0) := allP_may all1 (by rw [List.length_replicate]; exact hk2)
    rw [ha] at e4 f4
    simp only [resA] at e4
    have sx : aBytesStr (Z x) s5.get = some (Z (.str (framesB (List.replicate k eM)))) := RB.str (Rd.gr f4.rd (fun c hc => (f4.new c hc).2) f5.gr)
    have c5 : ((k : Nat) : Int) ≤ 2000 := by omega
    generalize ((7 * min k 2000 : Nat) : Int) = M7 at *
    generalize ((min k 2000 : Nat) : Int) = MK at *
    generalize ((k : Nat) : Int) = K at *
    generalize ((y : Nat) : Int) = YY at *
    generalize ((rowK n : Nat) : Int) = RK at *
    generalize R (d + 11) = r at *
    simp [c1, r1', c3, w1, ag, nw, st2, ld2, e3, aExtract, lp, e4, e5, mn, lm, lf, ml, tl5, c5, sx, sb, gtt]
  · have ha : allP (List.replicate k eM) = ([], 8) := by unfold allP; rw [if_pos all1, if_neg (by rw [List.length_replicate]; exact hk2)]
    rw [ha] at e4 f4
    simp only [resA] at e4
    have lx : aLenSl (Z x) = some (I .i64 0) := (f4.rd : RB s4 x []).lens
    have c5 : ¬ ((k : Nat) : Int) ≤ 2000 := by omega
    generalize ((7 * min k 2000 : Nat) : Int) = M7 at *
    generalize ((min k 2000 : Nat) : Int) = MK at *
    generalize ((k : Nat) : Int) = K at *
    generalize ((y : Nat) : Int) = YY at *
    generalize ((rowK n : Nat) : Int) = RK at *
    generalize R (d + 11) = r at *
    simp [c1, r1', c3, w1, ag, nw, st2, ld2, e3, aExtract, lp, e4, e5, mn, lm, lf, ml, tl5, c5, lx, gtt]
end
end Go.Proofs.YtlhbidbdmdcdeaaGreatDoor

/-
  LogTurned: a byte that is turned behind a frame's length ends the reading ahead of that frame. No conditions but those named in each line.
-/
namespace Go.Proofs.YtlhbidbdmdcdeaaGreatDoor
open Go Go.Abs Go.Abs.F
set_option linter.unusedVariables false

theorem sumB_inj : ∀ (r : Bs) (a b : Nat), a < 4294967291 → b < 4294967291 → sumB a r = sumB b r → a = b
  | [], a, b, _, _, h => h
  | c :: r, a, b, ha, hb, h => by
    have := sumB_inj r _ _ (Nat.mod_lt _ (by decide)) (Nat.mod_lt _ (by decide)) h
    omega

theorem sumB_set : ∀ (b : Bs) (n q : Nat) (v : UInt8), n < 4294967291 → (hq : q < b.length) → v ≠ b[q] → sumB n (b.set q v) ≠ sumB n b
  | [], n, q, v, _, hq, _ => by simp at hq
  | c :: r, n, 0, v, hn, _, hv => fun h => by
    have := sumB_inj r _ _ (Nat.mod_lt _ (by decide)) (Nat.mod_lt _ (by decide)) h
    have h1 := v.toNat_lt
    have h2 := c.toNat_lt
    exact hv (UInt8.toNat.inj (by show v.toNat = c.toNat; omega))
  | c :: r, n, q + 1, v, hn, hq, hv => fun h => by
    rw [List.set_cons_succ] at h
    exact sumB_set r _ q v (Nat.mod_lt _ (by decide)) (by simpa using hq) (by simpa using hv) h

theorem four_inj {a b : Nat} (ha : a < 4294967296) (hb : b < 4294967296) (h : four a = four b) : a = b := by
  unfold four at h
  simp only [List.cons.injEq, and_true] at h
  obtain ⟨h0, h1, h2, h3⟩ := h
  have e0 := congrArg UInt8.toNat h0
  have e1 := congrArg UInt8.toNat h1
  have e2 := congrArg UInt8.toNat h2
  have e3 := congrArg UInt8.toNat h3
  simp only [byte_nat] at e0 e1 e2 e3
  omega

theorem turned_none {pre b post : Bs} {i : Nat} {v : UInt8} (h1 : (vput b.length).length ≤ i) (h2 : i < (wrapB b).length) (hv : (wrapB b)[i]? ≠ some v) (hb : b.length < 2 ^ 64) :
    openB (pre ++ ((wrapB b).set i v ++ post)) pre.length = none := by
  cases ho : openB (pre ++ ((wrapB b).set i v ++ post)) pre.length with
  | none => rfl
  | some pe =>
    exfalso
    obtain ⟨p, e⟩ := pe
    obtain ⟨he, hel, post', hp⟩ := openB_back ho
    rw [List.drop_left] at hp
    have hpl : p.length < 2 ^ 64 := by
      have := wrapB_le p
      have h3 := congrArg List.length hp
      simp only [List.length_append, List.length_set] at h3
      unfold openB at ho
      split at ho
      · cases ho
      · rename_i n to hvg
        split at ho
        · cases ho
        · split at ho
          · cases ho
            have := getN_few hvg
            rw [List.length_take]
            have hn := vget_vput (bs := pre ++ ((wrapB b).set i v ++ post)) (pre := pre) (post := ((four (sumB 1 (vput b.length ++ b)) ++ b).set (i - (vput b.length).length) v) ++ post) (at_ := pre.length) (n := b.length) (by
              rw [wrapB, List.append_assoc, List.set_append_right _ _ h1, List.append_assoc]) rfl hb
            rw [hvg] at hn
            cases hn
            omega
          · cases ho
    have hset : (wrapB b).set i v = vput b.length ++ (four (sumB 1 (vput b.length ++ b)) ++ b).set (i - (vput b.length).length) v := by
      rw [wrapB, List.append_assoc, List.set_append_right _ _ h1]
    have v1 := vget_vput (bs := (wrapB b).set i v ++ post) (pre := []) (post := ((four (sumB 1 (vput b.length ++ b)) ++ b).set (i - (vput b.length).length) v) ++ post) (at_ := 0) (n := b.length) (by rw [hset]; simp) rfl hb
    have v2 := vget_vput (bs := (wrapB b).set i v ++ post) (pre := []) (post := four (sumB 1 (vput p.length ++ p)) ++ p ++ post') (at_ := 0) (n := p.length) (by rw [hp, wrapB]; simp) rfl hpl
    rw [v1] at v2
    have hlen : b.length = p.length := (Prod.mk.inj (Option.some.inj v2)).1
    rw [hset, wrapB, ← hlen, List.append_assoc, List.append_assoc, List.append_assoc] at hp
    have hp := List.append_cancel_left hp
    rw [← List.append_assoc (four _) p post'] at hp
    have hf : ∀ n, (four n).length = 4 := fun _ => rfl
    have hp := (List.append_inj hp (by simp [hf, hlen])).1
    have hi : i - (vput b.length).length < (four (sumB 1 (vput b.length ++ b)) ++ b).length := by
      have : (wrapB b).length = (vput b.length).length + 4 + b.length := by simp [wrapB, hf]; omega
      simp [hf]
      omega
    have hget : (four (sumB 1 (vput b.length ++ b)) ++ b)[i - (vput b.length).length]? ≠ some v := by
      rw [wrapB, List.append_assoc, List.getElem?_append_right h1] at hv
      exact hv
    generalize i - (vput b.length).length = i' at *
    by_cases hc : i' < 4
    · have h4 := hp
      rw [List.set_append_left _ _ (by rw [hf]; exact hc)] at h4
      have h5 := (List.append_inj h4 (by simp [hf])).2
      subst h5
      have h6 := congrArg (fun l : Bs => l[i']?) hp
      simp only [List.getElem?_set_self hi] at h6
      exact hget h6.symm
    · have h4 := hp
      rw [List.set_append_right _ _ (by rw [hf]; omega), hf] at h4
      obtain ⟨h5, h6⟩ := List.append_inj h4 (by simp [hf])
      have s1 := sumB_lt (vput b.length ++ b) 1 (by decide)
      have s2 := sumB_lt (vput b.length ++ p) 1 (by decide)
      have h7 := four_inj (by omega) (by omega) h5
      rw [sumB_append, sumB_append, ← h6] at h7
      have hq : i' - 4 < b.length := by simp [hf] at hi; omega
      refine sumB_set b _ (i' - 4) v (sumB_lt _ 1 (by decide)) hq (fun e => hget ?_) h7.symm
      rw [List.getElem?_append_right (by rw [hf]; omega), hf, List.getElem?_eq_getElem hq, e]

theorem frames_at {l : List Ent} {k : Nat} (hk : k < l.length) : framesB l = framesB (l.take k) ++ (wrapB (putB l[k]) ++ framesB (l.drop (k + 1))) := by
  conv => lhs; rw [← List.take_append_drop k l, framesB_append, List.drop_eq_getElem_cons hk, framesB]

theorem turned_law {l : List Ent} (hm : l.all mayE = true) (hw : ∀ e ∈ l, EWf e) (hl : l.length ≤ 2000) {k i : Nat} {v : UInt8} (hk : k < l.length) (h1 : (vput (putB l[k]).length).length ≤ i) (h2 : i < (wrapB (putB l[k])).length)
    (hv : (wrapB (putB l[k]))[i]? ≠ some v) : readP ((framesB l).set ((framesB (l.take k)).length + i) v) = (l.take k, (framesB (l.take k)).length) := by
  have hb : (framesB l).set ((framesB (l.take k)).length + i) v = framesB (l.take k) ++ ((wrapB (putB l[k])).set i v ++ framesB (l.drop (k + 1))) := by
    rw [frames_at hk, List.set_append_right _ _ (by omega), Nat.add_sub_cancel_left, List.set_append_left _ _ h2]
  have hme : mayE l[k] = true := by
    rw [List.all_eq_true] at hm
    exact hm _ (List.getElem_mem hk)
  have hpl := mayE_len hme
  rw [hb, readP_frames (l := l.take k) (post := (wrapB (putB l[k])).set i v ++ framesB (l.drop (k + 1))) (by rw [List.length_take]; omega) (all_take k hm) (fun e he => hw e (List.mem_of_mem_take he)) rfl]
  exact readL_none (turned_none h1 h2 hv (by omega))

theorem vput_short {m : Nat} (h : m ≤ 400) : (m < 128 ∧ vput m = [UInt8.ofNat m]) ∨ (128 ≤ m ∧ vput m = [UInt8.ofNat (m % 128 + 128), UInt8.ofNat (m / 128)]) := by
  by_cases c : 128 ≤ m
  · right
    refine ⟨c, ?_⟩
    unfold vput putN
    rw [if_pos c]
    unfold putN
    rw [if_neg (by omega)]
  · left
    refine ⟨by omega, ?_⟩
    unfold vput putN
    rw [if_neg c]

theorem xor_run (a b : UInt8) : aBin .xor (I .u8 a.toNat) (I .u8 b.toNat) = some (I .u8 ((a ^^^ b).toNat)) := by
  have ha := a.toNat_lt
  have hb := b.toNat_lt
  have h1 : (BitVec.ofInt IntKind.u8.bits (a.toNat : Int)).toNat = a.toNat := bv_nat 8 _ (by simpa using ha)
  have h2 : (BitVec.ofInt IntKind.u8.bits (b.toNat : Int)).toNat = b.toNat := bv_nat 8 _ (by simpa using hb)
  have h3 : (a ^^^ b).toNat < 256 := (a ^^^ b).toNat_lt
  have h4 : IntKind.u8.wrap (((BitVec.ofInt IntKind.u8.bits (a.toNat : Int) ^^^ BitVec.ofInt IntKind.u8.bits (b.toNat : Int)).toNat : Nat) : Int) = (((a ^^^ b).toNat : Nat) : Int) := by
    rw [BitVec.toNat_xor, h1, h2, wrap8, ← UInt8.toNat_xor, Nat.mod_eq_of_lt h3]
  simp only [aBin, aInt, if_true]
  exact congrArg (fun z => some (I .u8 z)) h4

theorem xor_ne {a b : UInt8} (h : b ≠ 0) : a ^^^ b ≠ a := fun e => h (by
  have h1 : a.toNat ^^^ b.toNat = a.toNat := by rw [← UInt8.toNat_xor, e]
  have h2 : a.toNat ^^^ (a.toNat ^^^ b.toNat) = b.toNat := by rw [← Nat.xor_assoc, Nat.xor_self, Nat.zero_xor]
  rw [h1, Nat.xor_self] at h2
  exact UInt8.toNat.inj h2.symm)

section
variable {s t : St} {x y : S} {l m : List Ent} {bs : Bs}

theorem FB_put {s0 : St} (h : FB s0 s x bs) {j : Nat} (hj : j < bs.length) {i : Int} (hi : i = j) (v : UInt8) :
    ∃ p t, aIndexSl 1 (Z x) (I .i64 i) = some p ∧ aLoad1 p s.get = some (I .u8 bs[j].toNat) ∧ aStore 1 p (I .u8 v.toNat) s = some (tt, t) ∧ FB s0 t x (bs.set j v) ∧ s.size ≤ t.size ∧ ∀ b, own x ≠ some b → t.get b = s.get b := by
  obtain ⟨⟨wf, hz, hk⟩, ⟨hlen, how⟩, hnew⟩ := h
  rcases how with ⟨rfl, h0⟩ | ⟨c, rows, rfl, h0, _⟩ | ⟨c, rows, cap, rfl, hc, h1, h2, h3⟩
  · omega
  · omega
  · rw [Nat.mul_one] at h2 h3
    have hr : rows[j]? = some (.int .u8 bs[j].toNat) := by
      have := congrArg (fun l : List S => l[j]?) h3
      simp only [List.getElem?_take_of_lt hj, U_get, List.getElem?_eq_getElem hj, Option.map_some] at this
      exact this
    have hcl := (hnew c rfl).2
    have hcn := (hnew c rfl).1
    refine ⟨_, s.set c (.cells true (setRange rows j [.int .u8 v.toNat])), aIndexSl_int hi hj, aLoad1_of h1 (by simpa using hr), ?_, ⟨⟨St.wf_set wf hcl _, by simpa using hz, fun b hb => by rw [St.get_set_ne _ _ (by omega)]; exact hk b hb⟩, ⟨by simp [U], .inr (.inr ⟨c, setRange rows j [.int .u8 v.toNat], cap, by simp, by simpa using hc, St.get_set_same _ _ _, by simpa using h2, ?_⟩)⟩, fun d hd => by cases hd; exact ⟨hcn, by simpa using hcl⟩⟩, by simp, fun b hb => St.get_set_ne _ _ (fun e => hb (by rw [e]; rfl))⟩
    · have := aStore1_of (σ := s) (i := c) (o := 0 + j * 1) (x := .int .u8 v.toNat) h1 (by omega)
      simpa using this
    · rw [List.length_set, Nat.mul_one]
      show (rows.set j (.int .u8 v.toNat)).take bs.length = _
      rw [List.take_set, h3]
      simp [U, List.map_set]

theorem turned_run (d : Nat) (wf : s.wf) {is : List Int} {which at_ turn : Int} (hx : Rd 1 s x is.length (I64 is)) (hox : ∀ c, own x = some c → c < s.size) (ht : (Lit.int .u8 turn).wf = true) :
    ∃ t, R (d + 12) 6 [Z x, I .i64 which, I .i64 at_, I .u8 turn] s = some (B true, t) := by
  rw [f6_run]
  unfold f6
  have tl5 := fun st => told10_run (d + 10) st
  obtain ⟨hm, hw, hl⟩ := rowsE_may is
  have hfl := rowsE_len is
  obtain ⟨o, s1, e1, f1⟩ := rows_run (d + 10) wf hx hox
  generalize rowsE is = l at *
  obtain ⟨tb, rfl⟩ := byte_of ht
  have lo := (f1.rd : RE s1 o l).lens
  simp only [Nat.add_assoc, Nat.reduceAdd] at e1 tl5
  by_cases h0 : l = [] ∨ tb = 0
  · refine ⟨s1, ?_⟩
    have h0' : decide (((l.length : Nat) : Int) = 0) = true ∨ (decide (((l.length : Nat) : Int) = 0) = false ∧ decide (((tb.toNat : Nat) : Int) = 0) = true) := by
      by_cases h1 : l = []
      · exact .inl (by rw [h1]; rfl)
      · have : 0 < l.length := List.length_pos_iff.2 h1
        exact .inr ⟨decide_eq_false (by omega), by rw [h0.resolve_left h1]; rfl⟩
    clear h0 ht
    generalize ((l.length : Nat) : Int) = L at *
    generalize ((tb.toNat : Nat) : Int) = TB at *
    generalize R (d + 11) = r at *
    simp only [e1, bd2_some, bd_some, lo, eql_int]
    rcases h0' with h1 | ⟨h1, h2⟩
    · rw [h1]
      simp [tl5, gtt]
    · rw [h1]
      simp [tl5, h2]
  · have h1 : l ≠ [] := fun e => h0 (.inl e)
    have h2 : tb ≠ 0 := fun e => h0 (.inr e)
    have hpos : 0 < l.length := List.length_pos_iff.2 h1
    have ne1 : ¬ ((l.length : Nat) : Int) = 0 := by omega
    have ne2 : ¬ ((tb.toNat : Nat) : Int) = 0 := fun e => h2 (UInt8.toNat.inj (by show tb.toNat = 0; omega))
    clear h0
    obtain ⟨k, hk, _, c1, c2, r1, c3⟩ := mod_run which hpos (by omega)
    have oo : ∀ c, own o = some c → c < s1.size := fun c hc => (f1.new c hc).2
    obtain ⟨y, p1, ry, oy⟩ := RE_upto (f1.rd : RE s1 o l) (k := k) (by omega)
    obtain ⟨a, s3, e3, f3⟩ := all_run d f1.gr.wf ry (own_lt oy oo) (fun e he => hw e (List.mem_of_mem_take he)) (by rw [List.length_take]; omega)
    rw [allP_may (all_take k hm) (by rw [List.length_take]; omega)] at e3 f3
    have ro3 : RE s3 o l := Rd.gr f1.rd oo f3.gr
    have oo3 : ∀ c, own o = some c → c < s3.size := fun c hc => Nat.lt_of_lt_of_le (oo c hc) f3.gr.2.1
    obtain ⟨w, ix, ld⟩ := RE.atE ro3 (n := ((k : Nat) : Int)) rfl (List.getElem?_eq_getElem hk)
    have hme : mayE l[k] = true := by
      rw [List.all_eq_true] at hm
      exact hm _ (List.getElem_mem hk)
    obtain ⟨f, s4, e4, g4, F4⟩ := frame_run (d + 1) f3.gr.wf l[k] (hw _ (List.getElem_mem hk))
    have hf : frameE l[k] = some (wrapB (putB l[k])) := by simp [frameE, hme]
    rw [hf] at e4
    have F4 := F4 _ hf
    have oo4 : ∀ c, own o = some c → c < s4.size := fun c hc => Nat.lt_of_lt_of_le (oo3 c hc) g4.2.1
    obtain ⟨c, s5, e5, f5⟩ := all_run d F4.gr.wf (ro3.gr oo3 g4) oo4 hw (by omega)
    rw [allP_may hm (by omega)] at e5 f5
    simp only [resA, resF] at e3 e4 e5
    have f5 : FB s4 s5 c (framesB l) := f5
    have lc := f5.rd.lens
    have la := RB.lenB (bs := framesB (l.take k)) f3.rd
    have rf5 : RB s5 f (wrapB (putB l[k])) := Rd.gr F4.rd (fun c hc => (F4.new c hc).2) f5.gr
    have lf := rf5.lenB
    have hcut := congrArg List.length (frames_at hk)
    rw [List.length_append, List.length_append] at hcut
    have hpl := mayE_len hme
    have hwl : (wrapB (putB l[k])).length = (vput (putB l[k]).length).length + 4 + (putB l[k]).length := by simp [wrapB, four]; omega
    have hp1 : 1 ≤ (putB l[k]).length := by simp [putB]
    -- the length's bytes
    obtain ⟨c0, nn, hc0, hnn, hcc⟩ : ∃ (c0 : UInt8) (nn : Nat), (wrapB (putB l[k]))[0]? = some c0 ∧ nn = (vput (putB l[k]).length).length ∧ ((128 ≤ c0.toNat ∧ nn = 2) ∨ (¬ 128 ≤ c0.toNat ∧ nn = 1)) := by
      rcases vput_short hpl with ⟨hs, hv⟩ | ⟨hs, hv⟩
      · refine ⟨UInt8.ofNat (putB l[k]).length, 1, by rw [wrapB, hv]; rfl, by rw [hv]; rfl, .inr ⟨?_, rfl⟩⟩
        rw [byte_nat]; omega
      · refine ⟨UInt8.ofNat ((putB l[k]).length % 128 + 128), 2, by rw [wrapB, hv]; rfl, by rw [hv]; rfl, .inl ⟨?_, rfl⟩⟩
        rw [byte_nat]; omega
    have hn12 : nn = 1 ∨ nn = 2 := by rcases hcc with ⟨_, h⟩ | ⟨_, h⟩ <;> omega
    obtain ⟨w0, ix0, ld0⟩ := rf5.atB (n := 0) (j := 0) rfl hc0
    have n6 : ¬ (((wrapB (putB l[k])).length : Nat) : Int) < 6 := by omega
    obtain ⟨i, hi, _, d1, d2, r2, d3⟩ := mod_run at_ (n := (wrapB (putB l[k])).length - nn) (by omega) (by omega)
    have wn : IntKind.i64.wrap ((((wrapB (putB l[k])).length : Nat) : Int) - ((nn : Nat) : Int)) = (((wrapB (putB l[k])).length - nn : Nat) : Int) := by rw [wrap_in _ (by omega) (by omega)]; omega
    have wa : IntKind.i64.wrap ((((framesB (l.take k)).length : Nat) : Int) + ((nn : Nat) : Int)) = (((framesB (l.take k)).length + nn : Nat) : Int) := by rw [wrap_in _ (by omega) (by omega)]; omega
    have wj : IntKind.i64.wrap ((((framesB (l.take k)).length + nn : Nat) : Int) + ((i : Nat) : Int)) = (((framesB (l.take k)).length + (nn + i) : Nat) : Int) := by rw [wrap_in _ (by omega) (by omega)]; omega
    have hj : (framesB (l.take k)).length + (nn + i) < (framesB l).length := by omega
    have gj : ¬ (((framesB l).length : Nat) : Int) ≤ (((framesB (l.take k)).length + (nn + i) : Nat) : Int) := by omega
    have hbyte : (framesB l)[(framesB (l.take k)).length + (nn + i)]? = (wrapB (putB l[k]))[nn + i]? := by
      rw [frames_at hk, List.getElem?_append_right (by omega), Nat.add_sub_cancel_left, List.getElem?_append_left (by omega)]
    have hlt : nn + i < (wrapB (putB l[k])).length := by omega
    obtain ⟨v, hv⟩ : ∃ v, v = (framesB l)[(framesB (l.take k)).length + (nn + i)] ^^^ tb := ⟨_, rfl⟩
    obtain ⟨q, s6, iq, lq, sq, F6, hz6, hk6⟩ := FB_put f5 hj (i := (((framesB (l.take k)).length + (nn + i) : Nat) : Int)) rfl v
    have xr := xor_run (framesB l)[(framesB (l.take k)).length + (nn + i)] tb
    rw [← hv] at xr
    have hne : (wrapB (putB l[k]))[nn + i]? ≠ some v := by
      rw [← hbyte, List.getElem?_eq_getElem hj, hv]
      exact fun e => xor_ne h2 (Option.some.inj e).symm
    have law := turned_law hm hw (by omega) hk (i := nn + i) (v := v) (by omega) hlt hne
    obtain ⟨m, s7, e7, f7⟩ := read_run' d F6.gr.wf F6.rd (fun c hc => (F6.new c hc).2) (by rw [List.length_set]; omega)
    rw [law] at e7 f7
    simp only [resR] at e7
    have lm := (f7.rd : RE s7 m (l.take k)).lens
    have lk : (l.take k).length = k := by rw [List.length_take]; omega
    rw [lk] at lm
    have g47 : Gr s4 s7 := F6.gr.trans f7.gr
    have ro7 : RE s7 o l := (ro3.gr oo3 g4).gr oo4 g47
    obtain ⟨s8, e8, g8⟩ := front_run (d + 8) f7.gr.wf (f7.rd : RE s7 m (l.take k)) (fun c hc => (f7.new c hc).2) ro7 (fun c hc => Nat.lt_of_lt_of_le (oo4 c hc) g47.2.1) (by show (l.take k).length ≤ 8000; omega)
    rw [meetP_take, decide_eq_true rfl] at e8
    simp only [Nat.add_assoc, Nat.reduceAdd] at e3 e4 e5 e7 e8
    refine ⟨s8, ?_⟩
    have d128 : decide ((128 : Int) ≤ ((c0.toNat : Nat) : Int)) = decide (nn = 2) := by
      rcases hcc with ⟨h, h'⟩ | ⟨h, h'⟩
      · rw [decide_eq_true h', decide_eq_true (by omega)]
      · rw [decide_eq_false (by omega), decide_eq_false (by omega)]
    generalize (framesB l)[(framesB (l.take k)).length + (nn + i)] = fb at *
    generalize (((framesB (l.take k)).length + (nn + i) : Nat) : Int) = JJ at *
    generalize (((framesB (l.take k)).length + nn : Nat) : Int) = AN at *
    generalize (((wrapB (putB l[k])).length - nn : Nat) : Int) = WN at *
    generalize (((wrapB (putB l[k])).length : Nat) : Int) = WL at *
    generalize (((framesB (l.take k)).length : Nat) : Int) = AL at *
    generalize (((framesB l).length : Nat) : Int) = CL at *
    generalize ((l.length : Nat) : Int) = L at *
    generalize ((k : Nat) : Int) = KK at *
    generalize ((i : Nat) : Int) = II at *
    generalize ((v.toNat : Nat) : Int) = VV at *
    generalize ((tb.toNat : Nat) : Int) = TB at *
    generalize ((fb.toNat : Nat) : Int) = FBB at *
    generalize ((c0.toNat : Nat) : Int) = C0 at *
    generalize ((rowK which : Nat) : Int) = RK at *
    generalize ((rowK at_ : Nat) : Int) = RA at *
    generalize R (d + 11) = r at *
    clear hj hlt hbyte law hne hi hcut hwl hpl hp1 hfl hcc hc0 hnn
    rcases hn12 with rfl | rfl
    · have dd : decide ((128 : Int) ≤ C0) = false := d128
      simp at wa wn
      simp [e1, lo, ne1, ne2, c1, c2, r1, c3, p1, e3, aExtract, ix, ld, e4, e5, lf, n6, ix0, ld0, dd, la, wa, d1, wn, d2, r2, d3, wj, lc, gj, iq, lq, xr, sq, e7, tl5, lm, e8]
    · have dd : decide ((128 : Int) ≤ C0) = true := d128
      simp at wa wn
      simp [e1, lo, ne1, ne2, c1, c2, r1, c3, p1, e3, aExtract, ix, ld, e4, e5, lf, n6, ix0, ld0, dd, la, wa, d1, wn, d2, r2, d3, wj, lc, gj, iq, lq, xr, sq, e7, tl5, lm, e8]
end
end Go.Proofs.YtlhbidbdmdcdeaaGreatDoor

/-
  EntryBack, run. No conditions but those named in each line.
-/
namespace Go.Proofs.YtlhbidbdmdcdeaaGreatDoor
open Go Go.Abs Go.Abs.F
set_option linter.unusedVariables false
section
variable {s : St} {x y z : S} {bs : Bs}

/-- Bytes copied into a new slice. -/
theorem copy_run (wf : s.wf) (h : RB s x bs) (hox : ∀ c, own x = some c → c < s.size) (hl : bs.length ≤ 100000) : ∃ y t s1, aNew s (nSlice 0 (aFill [] [])) = some (Z (.sl s.size 0 0 (.known 0)), s1) ∧ aAppend 1 1 (Z (.sl s.size 0 0 (.known 0))) (Z x) s1 = some (Z y, t) ∧ FB s t y bs := by
  have f0 := Fr.lit 1 wf (n := 0) (vs := []) rfl
  have g : FB s (s.push (.cells true [])) (.sl s.size 0 0 (.known 0)) [] := f0
  obtain ⟨y, t, e, f, _⟩ := FB.app g (h.gr hox f0.gr) (by simp; omega)
  exact ⟨y, t, _, rfl, e, f⟩

/-- A place for an entry. -/
theorem slot (wf : s.wf) (e : Ent) : ∃ s1 s2, aNew s (nCells [.int .i64 0, .int .i64 0, .int .i64 0, .int .i64 0, .int .i64 0, .int .i64 0, .int .u32 0, .str []]) = some (Z (.ptr s.size 0), s1) ∧ aStore 8 (Z (.ptr s.size 0)) (AE e) s1 = some (tt, s2) ∧ Gr s s2 ∧ s2.get s.size = some (.cells true (cE e)) ∧ s.size < s2.size := by
  have b0 : (s.push (.cells true (cE ent0))).get s.size = some (.cells true (cE ent0)) := St.get_push_same _ _
  refine ⟨s.push (.cells true (cE ent0)), _, rfl, store8 b0 rfl, ⟨St.wf_set (St.wf_push wf _) (by simp) _, by simp, fun c hc => by rw [St.get_set_ne _ _ (by omega), St.get_push_ne _ _ (by omega)]⟩, St.get_set_same _ _ _, by simp⟩

set_option maxHeartbeats 4000000 in
theorem eback_run (d : Nat) (wf : s.wf) (e : Ent) (hw : EWf e) (at_ : Int) (cb : UInt8) : ∃ t, R (d + 13) 11 [AE e, I .i64 at_, I .u8 cb.toNat] s = some (B true, t) := by
  rw [f11_run]
  unfold f11
  obtain ⟨n, hn⟩ : ∃ n, n = s.size := ⟨_, rfl⟩
  obtain ⟨s1, hs1⟩ : ∃ s1, s1 = s.push (.cells true (cE e)) := ⟨_, rfl⟩
  have nw1 : aNew s (nBox (AE e)) = some (Z (.ptr n 0), s1) := by rw [hs1, hn]; rfl
  have g1 : Gr s s1 := by rw [hs1]; exact Gr.push wf _
  have b1 : s1.get n = some (.cells true (cE e)) := by rw [hs1, hn]; exact St.get_push_same _ _
  have l1 := load8 (g := s1.get) b1
  have L2 := Fr.lit 8 g1.wf (n := 1) (vs := cells cE [e]) (by simp [cE])
  obtain ⟨s2, hs2⟩ : ∃ s2, s2 = s1.push (.cells true (cells cE [e])) := ⟨_, rfl⟩
  rw [← hs2] at L2
  have nw2 : aNew s1 (nSlice 1 (aFill [.int .i64 0, .int .i64 0, .int .i64 0, .int .i64 0, .int .i64 0, .int .i64 0, .int .u32 0, .str []] [(0, 8, AE e)])) = some (Z (.sl s1.size 0 1 (.known 1)), s2) := by rw [hs2]; rfl
  have r2 : RE s2 (.sl s1.size 0 1 (.known 1)) [e] := L2.rd
  have k2 := few_run (d + 11) r2 (by simp)
  have b2 : s2.get n = some (.cells true (cE e)) := L2.gr.get b1 g1.wf
  have l2 := load8 (g := s2.get) b2
  have tl := fun st => told9_run (d + 11) st
  obtain ⟨s4, e4, g4⟩ := mayE_run (d + 4) L2.gr.wf e
  have b4 : s4.get n = some (.cells true (cE e)) := g4.get b2 L2.gr.wf
  have l4 := load8 (g := s4.get) b4
  simp only [Nat.add_assoc, Nat.reduceAdd] at k2 tl e4
  cases hf : fewP [e] with
  | false =>
    rw [hf] at k2
    refine ⟨s2, ?_⟩
    generalize R (d + 12) = r at *
    simp [nw1, l1, nw2, k2, gtt, tl]
  | true =>
    rw [hf] at k2
    cases hm : mayE e with
    | false =>
      rw [hm] at e4
      refine ⟨s4, ?_⟩
      generalize R (d + 12) = r at *
      simp [nw1, l1, nw2, k2, l2, e4, tl]
    | true =>
      rw [hm] at e4
      obtain ⟨y6, s6, e6, f6⟩ := put_run (d + 3) g4.wf hm hw
      have bl := putB_len (mayE_x hm)
      have b6 : s6.get n = some (.cells true (cE e)) := f6.gr.get b4 g4.wf
      have o6 : ∀ c, own y6 = some c → c < s6.size := fun c hc => (f6.new c hc).2
      obtain ⟨s7, e7, g7⟩ := get_run (d + 2) f6.gr.wf f6.rd o6 (by omega)
      rw [getE_putB hm hw] at e7
      obtain ⟨s8, s9, nw9, st9, g9, b9, z9⟩ := slot g7.wf e
      have l9 := load8 (g := s9.get) b9
      have g69 := g7.trans g9
      have c9 : s9.get n = some (.cells true (cE e)) := g69.get b6 f6.gr.wf
      have l9' := load8 (g := s9.get) c9
      have nE := neBE e e
      rw [decide_eq_true rfl] at nE
      have r9 : RB s9 y6 (putB e) := f6.rd.gr o6 g69
      have o9 : ∀ c, own y6 = some c → c < s9.size := fun c hc => Nat.lt_of_lt_of_le (o6 c hc) g69.2.1
      have ll := r9.lenB
      have lpos : 0 < (putB e).length := by simp [putB]
      have lne : ¬ (((putB e).length : Nat) : Int) = 0 := by omega
      obtain ⟨k, hk, _, c1, c2, r1, c3⟩ := mod_run at_ (n := (putB e).length) lpos (by omega)
      obtain ⟨y10, p10, r10, ow10⟩ := RB_upto r9 (k := k) (by omega)
      have o10 := own_lt ow10 o9
      obtain ⟨s10, e10, g10⟩ := get_run (d + 2) g9.wf r10 o10 (by simp; omega)
      rw [getE_less hm hw hk] at e10
      obtain ⟨s11, s12, nw12, st12, g12, _, _⟩ := slot g10.wf ent0
      have g912 := g10.trans g12
      have o12 : ∀ c, own y6 = some c → c < s12.size := fun c hc => Nat.lt_of_lt_of_le (o9 c hc) g912.2.1
      obtain ⟨y14, s14, s13, nw13, ap14, f14⟩ := copy_run g12.wf (r9.gr o9 g912) o12 (by omega)
      obtain ⟨y16, s16, ap16', f16, _⟩ := FB.lit (cs := [cb]) f14 (by simp; omega)
      have ap16 : aAppend 1 1 (Z y14) (Z (.sl s14.size 0 1 (.known 1))) (s14.push (.cells true (U [cb]))) = some (Z y16, s16) := ap16'
      have lt1 : aNew s14 (nSlice 1 (aFill [.int .u8 0] [(0, 1, I .u8 cb.toNat)])) = some (Z (.sl s14.size 0 1 (.known 1)), s14.push (.cells true (U [cb]))) := lit1 s14 cb.toNat
      clear ap16'
      obtain ⟨s17, e17, g17⟩ := get_run (d + 2) f16.gr.wf f16.rd (fun c hc => (f16.new c hc).2) (by simp; omega)
      rw [getE_more hm hw (z := [cb]) (by simp)] at e17
      obtain ⟨s18, s19, nw19, st19, g19, _, _⟩ := slot g17.wf ent0
      have g1219 := f16.gr.trans (g17.trans g19)
      have g919 := g912.trans g1219
      have o19 : ∀ c, own y6 = some c → c < s19.size := fun c hc => Nat.lt_of_lt_of_le (o9 c hc) g919.2.1
      obtain ⟨y21, s21, s20, nw20, ap21, f21⟩ := copy_run g19.wf (r9.gr o9 g919) o19 (by omega)
      obtain ⟨p22, s22, ix22, _, st22, f22, _⟩ := FB_put f21 (j := k) hk (i := ((k : Nat) : Int)) rfl cb
      obtain ⟨s23, e23, g23⟩ := get_run (d + 2) f22.gr.wf f22.rd (fun c hc => (f22.new c hc).2) (by simp; omega)
      have gfin := g919.trans (f22.gr.trans g23)
      simp only [Nat.add_assoc, Nat.reduceAdd] at e6 e7 e10 e17 e23
      -- the end: whatever the turned bytes are
      have fin : ∀ (w : Ent), ∃ s24 s25, aNew s23 (nCells [.int .i64 0, .int .i64 0, .int .i64 0, .int .i64 0, .int .i64 0, .int .i64 0, .int .u32 0, .str []]) = some (Z (.ptr s23.size 0), s24) ∧ aStore 8 (Z (.ptr s23.size 0)) (AE w) s24 = some (tt, s25) ∧ aLoadN 8 (Z (.ptr s23.size 0)) s25.get = some (AE w) ∧
          aLoadN 8 (Z (.ptr n 0)) s25.get = some (AE e) ∧ ∃ p, aIndexSl 1 (Z y6) (I .i64 (k : Nat)) = some p ∧ aLoad1 p s25.get = some (I .u8 (putB e)[k].toNat) := fun w => by
        obtain ⟨s24, s25, a1, a2, g25, b25, _⟩ := slot g23.wf w
        have r25 : RB s25 y6 (putB e) := r9.gr o9 (gfin.trans g25)
        obtain ⟨p, i1, i2⟩ := r25.atB (n := ((k : Nat) : Int)) rfl (List.getElem?_eq_getElem hk)
        exact ⟨s24, s25, a1, a2, load8 b25, load8 ((gfin.trans g25).get c9 g9.wf), p, i1, i2⟩
      have q2 : ∀ (a b : UInt8), aBin .eql (I .u8 a.toNat) (I .u8 b.toNat) = some (B (decide (a = b))) := fun a b => by
        rw [eql_int]
        have : decide (((a.toNat : Nat) : Int) = ((b.toNat : Nat) : Int)) = decide (a = b) := decide_eq_decide.2 ⟨fun h => UInt8.toNat_inj.1 (by omega), fun h => by rw [h]⟩
        rw [this]
      cases hg : getE ((putB e).set k cb) with
      | none =>
        rw [hg] at e23
        obtain ⟨s24, s25, a1, a2, a3, a4, p, a5, a6⟩ := fin ent0
        refine ⟨s25, ?_⟩
        clear fin
        generalize s14.push (.cells true (U [cb])) = s15 at *
        generalize s23.size = n23 at *
        generalize s17.size = n17 at *
        generalize s10.size = n10 at *
        generalize s7.size = n7 at *
        generalize s12.size = n12 at *
        generalize s14.size = n14 at *
        generalize s19.size = n19 at *
        generalize s1.size = n1 at *
        generalize (((putB e).length : Nat) : Int) = BL at *
        generalize ((k : Nat) : Int) = K at *
        generalize ((rowK at_ : Nat) : Int) = RK at *
        generalize ((cb.toNat : Nat) : Int) = CB at *
        generalize R (d + 12) = r at *
        simp [nw1, l1, nw2, k2, l2, e4, l4, e6, aExtract, e7, nw9, st9, l9, l9', nE, ll, lne, c1, c2, r1, c3, p10, e10, nw12, st12, nw13, ap14, lt1, ap16, e17, nw19, st19, nw20, ap21, ix22, st22, e23, a1, a2, tl, gtt]
      | some w =>
        rw [hg] at e23
        have ht := getE_turn hm hw hk hg
        obtain ⟨s24, s25, a1, a2, a3, a4, p, a5, a6⟩ := fin w
        have qE := eqBE w e
        have qc := q2 cb (putB e)[k]
        rw [← ht] at qc
        refine ⟨s25, ?_⟩
        clear fin ht
        generalize decide (w = e) = D at *
        generalize (((putB e)[k].toNat : Nat) : Int) = PK at *
        generalize s14.push (.cells true (U [cb])) = s15 at *
        generalize s23.size = n23 at *
        generalize s17.size = n17 at *
        generalize s10.size = n10 at *
        generalize s7.size = n7 at *
        generalize s12.size = n12 at *
        generalize s14.size = n14 at *
        generalize s19.size = n19 at *
        generalize s1.size = n1 at *
        generalize (((putB e).length : Nat) : Int) = BL at *
        generalize ((k : Nat) : Int) = K at *
        generalize ((rowK at_ : Nat) : Int) = RK at *
        generalize ((cb.toNat : Nat) : Int) = CB at *
        generalize R (d + 12) = r at *
        simp [nw1, l1, nw2, k2, l2, e4, l4, e6, aExtract, e7, nw9, st9, l9, l9', nE, ll, lne, c1, c2, r1, c3, p10, e10, nw12, st12, nw13, ap14, lt1, ap16, e17, nw19, st19, nw20, ap21, ix22, st22, e23, a1, a2, tl, a3, a4, qE, a5, a6, qc]
end
end Go.Proofs.YtlhbidbdmdcdeaaGreatDoor
