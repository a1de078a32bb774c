/-
  Several texts in one: what functions that the law reaches compute. No conditions but those named in each line.
-/
import Derived.Test.YtlhbidbdmdcdeaaGreatDoorFnsC
import Derived.Test.YtlhbidbdmdcdeaaGreatDoorAbsE
import Derived.Test.YtlhbidbdmdcdeaaGreatDoorFnsA
import Derived.Shelf.Strings.OnBuilder
import Derived.Shelf.Strings.Search3
import Derived.Shelf.Strings.Count
import Derived.Test.YtlhbidbdmdcdeaaGreatDoorProg
/-
  The document's own May of entries. No conditions but those named in each line.
-/
namespace Go.Proofs.YtlhbidbdmdcdeaaGreatDoor
open Go Go.Abs Go.Abs.F
set_option linter.unusedVariables false
section
variable {s t : St} {x y : S} {l : Bs} {i c : Nat}

/-- One cell of the other block is stored; a block keeps. -/
theorem st_cell {s0 u : St} {n m j : Nat} {xs : List S} {v : S} (g : Gr s0 u) (hm : u.get m = some (.cells true xs)) (hs : s0.size ≤ m) (hj : j < xs.length) (hne : n ≠ m) :
    ∃ u', aStore 1 (Z (.ptr m j)) (Z v) u = some (tt, u') ∧ u'.get m = some (.cells true (xs.set j v)) ∧ (∀ k, aLoad1 (Z (.ptr n k)) u'.get = aLoad1 (Z (.ptr n k)) u.get) ∧ u'.get n = u.get n ∧ Gr s0 u' := by
  have e := aStore1_of (σ := u) (i := m) (o := j) (x := v) hm hj
  have hn : (u.set m (.cells true (setRange xs j [v]))).get n = u.get n := St.get_set_ne _ _ hne
  refine ⟨_, e, St.get_set_same _ _ _, fun k => ?_, hn, St.wf_set g.wf (g.wf.lt hm) _, by simpa using g.2.1, fun b hb => by rw [St.get_set_ne _ _ (by omega)]; exact g.2.2 b hb⟩
  simp only [aLoad1, hn]

set_option maxHeartbeats 4000000 in
theorem rmayE_run (d : Nat) (wf : s.wf) (e : Ent) (hx : e.x.length ≤ 8000) : ∃ t, R (d + 4) 38 [AE e] s = some (B (mayE e), t) ∧ Gr s t := by
  rw [f38_run]
  unfold f38
  obtain ⟨n, hn⟩ : ∃ n, n = s.size := ⟨_, rfl⟩
  obtain ⟨s1, hs1⟩ : ∃ s1, s1 = s.push (.cells true (cE e)) := ⟨_, rfl⟩
  have nw1 : aNew s (nBox (AE e)) = some (Z (.ptr n 0), s1) := by rw [hs1, hn]; rfl
  have g1 : Gr s s1 := by rw [hs1]; exact Gr.push wf _
  have z1 : s1.size = n + 1 := by rw [hs1, hn]; rfl
  have b1 : s1.get n = some (.cells true (cE e)) := by rw [hs1, hn]; exact St.get_push_same _ _
  have fa : ∀ j, aFieldAddr j (Z (.ptr n 0)) = some (Z (.ptr n j)) := fun j => by simp [aFieldAddr]
  have fb : ∀ j, aFieldAddr j (Z (.ptr (n + 1) 0)) = some (Z (.ptr (n + 1) j)) := fun j => by simp [aFieldAddr]
  have l0 : aLoad1 (Z (.ptr n 0)) s1.get = some (I .i64 e.k) := aLoad1_of b1 rfl
  have l1 : aLoad1 (Z (.ptr n 1)) s1.get = some (I .i64 e.v) := aLoad1_of b1 rfl
  by_cases hv : e.v < 0 ∨ 1073741824 < e.v
  · have hm : mayE e = false := by unfold mayE; rw [if_pos hv]
    rw [hm]
    refine ⟨s1, ?_, g1⟩
    generalize R (d + 3) = r at *
    rcases Classical.em (e.v < 0) with h | h
    · simp [nw1, fa, l1, h, gtt]
    · have h' := hv.resolve_left h
      simp [nw1, fa, l1, h, h']
  · have v1 : ¬ e.v < 0 := fun h => hv (.inl h)
    have v2 : ¬ 1073741824 < e.v := fun h => hv (.inr h)
    obtain ⟨x0, hx0⟩ : ∃ x0 : Ent, x0 = { ent0 with k := e.k, v := e.v } := ⟨_, rfl⟩
    have ag : asAggT (aFill [.int .i64 0, .int .i64 0, .int .i64 0, .int .i64 0, .int .i64 0, .int .i64 0, .int .u32 0, .str []] [(0, 1, I .i64 e.k), (1, 1, I .i64 e.v)]) = some (AE x0) := by rw [hx0]; rfl
    obtain ⟨s2, hs2⟩ : ∃ s2, s2 = s1.push (.cells true (cE ent0)) := ⟨_, rfl⟩
    have nw2 : aNew s1 (nCells [.int .i64 0, .int .i64 0, .int .i64 0, .int .i64 0, .int .i64 0, .int .i64 0, .int .u32 0, .str []]) = some (Z (.ptr (n + 1) 0), s2) := by rw [hs2, ← z1]; rfl
    have b2 : s2.get (n + 1) = some (.cells true (cE ent0)) := by rw [hs2, ← z1]; exact St.get_push_same _ _
    have b2' : s2.get n = some (.cells true (cE e)) := by rw [hs2, St.get_push_ne _ _ (by omega)]; exact b1
    have z2 : s2.size = n + 2 := by rw [hs2]; simp [z1]
    obtain ⟨s3, hs3⟩ : ∃ s3, s3 = s2.set (n + 1) (.cells true (cE x0)) := ⟨_, rfl⟩
    have st3 := store8 (e := x0) b2 rfl
    rw [← hs3] at st3
    have b3 : s3.get (n + 1) = some (.cells true (cE x0)) := by rw [hs3]; exact St.get_set_same _ _ _
    have b3' : s3.get n = some (.cells true (cE e)) := by rw [hs3, St.get_set_ne _ _ (by omega)]; exact b2'
    have g3 : Gr s s3 := ⟨by rw [hs3, hs2]; exact St.wf_set (St.wf_push g1.wf _) (by simp [z1]) _, by rw [hs3]; simp [z2]; omega, fun b hb => by rw [hs3, St.get_set_ne _ _ (by omega), hs2, St.get_push_ne _ _ (by omega)]; exact g1.2.2 b hb⟩
    have m0 : aLoad1 (Z (.ptr n 0)) s3.get = some (I .i64 e.k) := aLoad1_of b3' rfl
    have m1 : aLoad1 (Z (.ptr n 1)) s3.get = some (I .i64 e.v) := aLoad1_of b3' rfl
    have m2 : aLoad1 (Z (.ptr n 2)) s3.get = some (I .i64 e.i) := aLoad1_of b3' rfl
    have m3 : aLoad1 (Z (.ptr n 3)) s3.get = some (I .i64 e.t) := aLoad1_of b3' rfl
    have m4 : aLoad1 (Z (.ptr n 4)) s3.get = some (I .i64 e.f) := aLoad1_of b3' rfl
    have m5 : aLoad1 (Z (.ptr n 5)) s3.get = some (I .i64 e.o) := aLoad1_of b3' rfl
    have m6 : aLoad1 (Z (.ptr n 6)) s3.get = some (I .u32 e.u) := aLoad1_of b3' rfl
    have m7 : aLoad1 (Z (.ptr n 7)) s3.get = some (Z (.str e.x)) := aLoad1_of b3' rfl
    -- the end: are they one?
    have fin : ∀ (u : St) (w : Ent), u.get n = some (.cells true (cE e)) → u.get (n + 1) = some (.cells true (cE w)) → aLoadN 8 (Z (.ptr (n + 1) 0)) u.get = some (AE w) ∧ aLoadN 8 (Z (.ptr n 0)) u.get = some (AE e) := fun u w h h' => ⟨load8 h', load8 h⟩
    have eqn := eqBE
    by_cases k3 : e.k = 3
    · obtain ⟨f1, f2⟩ := fin s3 x0 b3' b3
      have hm : mayE e = (decide (0 < e.v) && decide (e = x0)) := by
        unfold mayE
        rw [if_neg hv, if_neg (by omega), if_neg (by omega), if_pos k3, hx0, k3]
      rw [hm]
      refine ⟨s3, ?_, g3⟩
      rw [k3] at m0
      have hk : e.k = 3 := k3
      generalize R (d + 3) = r at *
      by_cases hv1 : e.v < 1
      · have : ¬ 0 < e.v := by omega
        simp [nw1, fa, l0, l1, v1, v2, ag, nw2, st3, m0, m1, hv1, this]
      · have h0 : 0 < e.v := by omega
        have hc : decide (x0 = e) = decide (e = x0) := decide_eq_decide.2 ⟨Eq.symm, Eq.symm⟩
        simp [nw1, fa, l0, l1, v1, v2, ag, nw2, st3, m0, m1, hv1, h0, f1, f2, eqn, hc]
    · by_cases k2 : e.k = 2
      · obtain ⟨s9, e9, r9, o9, q9, g9⟩ := st_cell (n := n) (m := n + 1) (j := 2) (v := .int .i64 e.i) g3 b3 (by omega) (by rw [cE_len]; omega) (by omega)
        have hx2 : (cE x0).set 2 (.int .i64 e.i) = cE { x0 with i := e.i } := rfl
        rw [hx2] at r9
        rw [b3'] at q9
        obtain ⟨f1, f2⟩ := fin s9 _ q9 r9
        have hm : mayE e = (idOk e.i && decide (e = { x0 with i := e.i })) := by
          unfold mayE
          rw [if_neg hv, if_neg (by omega), if_pos k2, hx0, k2]
        rw [hm]
        refine ⟨s9, ?_, g9⟩
        have o2 := o9 2
        rw [m2] at o2
        rw [k2] at m0
        have hc : decide ({ x0 with i := e.i } = e) = decide (e = { x0 with i := e.i }) := decide_eq_decide.2 ⟨Eq.symm, Eq.symm⟩
        generalize ({ x0 with i := e.i } : Ent) = xx at *
        generalize R (d + 3) = r at *
        by_cases h1 : e.i < 1
        · have hid : idOk e.i = false := by unfold idOk; rw [decide_eq_false (by omega)]; rfl
          simp [nw1, fa, fb, l0, l1, v1, v2, ag, nw2, st3, m0, m2, e9, o2, h1, hid, gtt]
        · by_cases h2 : 1073741824 < e.i
          · have hid : idOk e.i = false := by unfold idOk; rw [decide_eq_false (show ¬ e.i ≤ 1073741824 by omega), Bool.and_false]
            simp [nw1, fa, fb, l0, l1, v1, v2, ag, nw2, st3, m0, m2, e9, o2, h1, h2, hid]
          · have hid : idOk e.i = true := by unfold idOk; rw [decide_eq_true (show 1 ≤ e.i by omega), decide_eq_true (show e.i ≤ 1073741824 by omega)]; rfl
            simp [nw1, fa, fb, l0, l1, v1, v2, ag, nw2, st3, m0, m2, e9, o2, h1, h2, hid, f1, f2, eqn, hc]
      · by_cases k4 : e.k = 4
        · obtain ⟨s9, e9, r9, o9, q9, g9⟩ := st_cell (n := n) (m := n + 1) (j := 7) (v := .str e.x) g3 b3 (by omega) (by rw [cE_len]; omega) (by omega)
          have hx2 : (cE x0).set 7 (.str e.x) = cE { x0 with x := e.x } := rfl
          rw [hx2] at r9
          rw [b3'] at q9
          obtain ⟨s11, e11, g11⟩ := rparse_run (l := e.x) d g9.wf hx
          rw [rparseP_eq] at e11
          obtain ⟨s12, hs12⟩ : ∃ s12, s12 = s11.push (.cells true (cP pol0)) := ⟨_, rfl⟩
          have nw12 : aNew s11 (nCells [.int .i64 0, .int .i64 0, .int .i64 0, .int .i64 0, .int .i64 0, .int .i64 0]) = some (Z (.ptr s11.size 0), s12) := by rw [hs12]; rfl
          have b12 : s12.get s11.size = some (.cells true (cP pol0)) := by rw [hs12]; exact St.get_push_same _ _
          obtain ⟨s13, hs13⟩ : ∃ s13, s13 = s12.set s11.size (.cells true (cP (parseP e.x).1)) := ⟨_, rfl⟩
          have st13 := store6 (p := (parseP e.x).1) b12 rfl
          rw [← hs13] at st13
          have g13 : Gr s11 s13 := ⟨by rw [hs13, hs12]; exact St.wf_set (St.wf_push g11.wf _) (by simp) _, by rw [hs13, hs12]; simp, fun b hb => by rw [hs13, St.get_set_ne _ _ (by omega), hs12, St.get_push_ne _ _ (by omega)]⟩
          have gg := g11.trans g13
          have q13 : s13.get n = some (.cells true (cE e)) := by rw [gg.2.2 _ (g9.wf.lt q9)]; exact q9
          have r13 : s13.get (n + 1) = some (.cells true (cE { x0 with x := e.x })) := by rw [gg.2.2 _ (g9.wf.lt r9)]; exact r9
          obtain ⟨f1, f2⟩ := fin s13 _ q13 r13
          have o7 := o9 7
          rw [m7] at o7
          have p7 : aLoad1 (Z (.ptr n 7)) s13.get = some (Z (.str e.x)) := aLoad1_of q13 rfl
          have hm : mayE e = (decide (e.x.length ≤ 300) && decide (e = { x0 with x := e.x }) && decide ((parseP e.x).2.1 = 0)) := by
            unfold mayE
            rw [if_neg hv, if_neg (by omega), if_neg (by omega), if_neg (by omega), if_pos k4, hx0, k4]
          rw [hm]
          refine ⟨s13, ?_, g9.trans gg⟩
          rw [k4] at m0
          have hc : decide ({ x0 with x := e.x } = e) = decide (e = { x0 with x := e.x }) := decide_eq_decide.2 ⟨Eq.symm, Eq.symm⟩
          have hl : aLenStr (Z (.str e.x)) = some (I .i64 ((e.x.length : Nat) : Int)) := rfl
          have h300 : decide ((300 : Int) < ((e.x.length : Nat) : Int)) = !decide (e.x.length ≤ 300) := by
            by_cases h : e.x.length ≤ 300
            · rw [decide_eq_true h, decide_eq_false (by omega)]; rfl
            · rw [decide_eq_false h, decide_eq_true (by omega)]; rfl
          simp only [resP] at e11
          generalize ({ x0 with x := e.x } : Ent) = xx at *
          generalize ((e.x.length : Nat) : Int) = XL at *
          generalize R (d + 3) = r at *
          generalize decide (e.x.length ≤ 300) = b300 at *
          by_cases hp : (parseP e.x).2.1 = 0
          · rw [hp] at e11
            cases b300 with
            | true =>
              have h300' : decide ((300 : Int) < XL) = false := h300
              simp [nw1, fa, fb, l0, l1, v1, v2, ag, nw2, st3, m0, m7, e9, o7, e11, aExtract, nw12, st13, p7, hl, h300', f1, f2, eqn, hc, hp]
            | false =>
              have h300' : decide ((300 : Int) < XL) = true := h300
              simp [nw1, fa, fb, l0, l1, v1, v2, ag, nw2, st3, m0, m7, e9, o7, e11, aExtract, nw12, st13, p7, hl, h300', hp]
          · simp [nw1, fa, fb, l0, l1, v1, v2, ag, nw2, st3, m0, m7, e9, o7, e11, aExtract, nw12, st13, hp, gtt]
        · by_cases k1 : e.k = 1
          · obtain ⟨s4, e4, r4, o4, q4, g4⟩ := st_cell (n := n) (m := n + 1) (j := 2) (v := .int .i64 e.i) g3 b3 (by omega) (by rw [cE_len]; omega) (by omega)
            obtain ⟨s5, e5, r5, o5, q5, g5⟩ := st_cell (n := n) (m := n + 1) (j := 3) (v := .int .i64 e.t) g4 r4 (by omega) (by simp [cE]) (by omega)
            obtain ⟨s6, e6, r6, o6, q6, g6⟩ := st_cell (n := n) (m := n + 1) (j := 4) (v := .int .i64 e.f) g5 r5 (by omega) (by simp [cE]) (by omega)
            obtain ⟨s7, e7, r7, o7, q7, g7⟩ := st_cell (n := n) (m := n + 1) (j := 5) (v := .int .i64 e.o) g6 r6 (by omega) (by simp [cE]) (by omega)
            obtain ⟨s8, e8, r8, o8, q8, g8⟩ := st_cell (n := n) (m := n + 1) (j := 6) (v := .int .u32 e.u) g7 r7 (by omega) (by simp [cE]) (by omega)
            have hx2 : (((((cE x0).set 2 (.int .i64 e.i)).set 3 (.int .i64 e.t)).set 4 (.int .i64 e.f)).set 5 (.int .i64 e.o)).set 6 (.int .u32 e.u) = cE { x0 with i := e.i, t := e.t, f := e.f, o := e.o, u := e.u } := rfl
            rw [hx2] at r8
            rw [q7, q6, q5, q4, b3'] at q8
            obtain ⟨f1, f2⟩ := fin s8 _ q8 r8
            have O5 : ∀ k, aLoad1 (Z (.ptr n k)) s5.get = aLoad1 (Z (.ptr n k)) s3.get := fun k => (o5 k).trans (o4 k)
            have O6 : ∀ k, aLoad1 (Z (.ptr n k)) s6.get = aLoad1 (Z (.ptr n k)) s3.get := fun k => (o6 k).trans (O5 k)
            have O7 : ∀ k, aLoad1 (Z (.ptr n k)) s7.get = aLoad1 (Z (.ptr n k)) s3.get := fun k => (o7 k).trans (O6 k)
            have O8 : ∀ k, aLoad1 (Z (.ptr n k)) s8.get = aLoad1 (Z (.ptr n k)) s3.get := fun k => (o8 k).trans (O7 k)
            have hm : mayE e = (decide (e.x = []) && idOk e.i && decide (0 ≤ e.t) && decide (e.t < 4) && decide (0 ≤ e.f) && decide (e.f < e.o) && decide (e.o ≤ 1099511627776)) := by
              unfold mayE
              rw [if_neg hv, if_pos k1]
            have hc : decide ({ x0 with i := e.i, t := e.t, f := e.f, o := e.o, u := e.u } = e) = decide (e.x = []) := by
              refine decide_eq_decide.2 ⟨fun h => ?_, fun h => ?_⟩
              · have := congrArg Ent.x h
                rw [hx0] at this
                exact this.symm
              · rw [hx0]
                show Ent.mk e.k e.v e.i e.t e.f e.o e.u [] = e
                rw [← h]
            rw [hm]
            refine ⟨s8, ?_, g8⟩
            rw [k1] at m0
            clear o5 o6 o7 o8 r4 r5 r6 r7 q4 q5 q6 q7 hx2
            generalize ({ x0 with i := e.i, t := e.t, f := e.f, o := e.o, u := e.u } : Ent) = xx at *
            generalize R (d + 3) = r at *
            have hid : idOk e.i = (decide (1 ≤ e.i) && decide (e.i ≤ 1073741824)) := rfl
            rw [hid]
            by_cases h1 : e.i < 1
            · have : ¬ 1 ≤ e.i := by omega
              simp [nw1, fa, fb, l0, l1, v1, v2, ag, nw2, st3, m0, m2, m3, m4, m5, m6, e4, e5, e6, e7, e8, o4, O5, O6, O7, O8, h1, this, gtt]
            · have h1' : 1 ≤ e.i := by omega
              by_cases h2 : 1073741824 < e.i
              · have : ¬ e.i ≤ 1073741824 := by omega
                simp [nw1, fa, fb, l0, l1, v1, v2, ag, nw2, st3, m0, m2, m3, m4, m5, m6, e4, e5, e6, e7, e8, o4, O5, O6, O7, O8, h1, h2, this, gtt]
              · have h2' : e.i ≤ 1073741824 := by omega
                by_cases h3 : e.t < 0
                · have : ¬ 0 ≤ e.t := by omega
                  simp [nw1, fa, fb, l0, l1, v1, v2, ag, nw2, st3, m0, m2, m3, m4, m5, m6, e4, e5, e6, e7, e8, o4, O5, O6, O7, O8, h1, h2, h3, this, gtt]
                · have h3' : 0 ≤ e.t := by omega
                  by_cases h4 : 3 < e.t
                  · have : ¬ e.t < 4 := by omega
                    simp [nw1, fa, fb, l0, l1, v1, v2, ag, nw2, st3, m0, m2, m3, m4, m5, m6, e4, e5, e6, e7, e8, o4, O5, O6, O7, O8, h1, h2, h3, h4, this, gtt]
                  · have h4' : e.t < 4 := by omega
                    by_cases h5 : e.f < 0
                    · have : ¬ 0 ≤ e.f := by omega
                      simp [nw1, fa, fb, l0, l1, v1, v2, ag, nw2, st3, m0, m2, m3, m4, m5, m6, e4, e5, e6, e7, e8, o4, O5, O6, O7, O8, h1, h2, h3, h4, h5, this, gtt]
                    · have h5' : 0 ≤ e.f := by omega
                      by_cases h6 : e.o ≤ e.f
                      · have : ¬ e.f < e.o := by omega
                        simp [nw1, fa, fb, l0, l1, v1, v2, ag, nw2, st3, m0, m2, m3, m4, m5, m6, e4, e5, e6, e7, e8, o4, O5, O6, O7, O8, h1, h2, h3, h4, h5, h6, this, gtt]
                      · have h6' : e.f < e.o := by omega
                        by_cases h7 : 1099511627776 < e.o
                        · have : ¬ e.o ≤ 1099511627776 := by omega
                          simp [nw1, fa, fb, l0, l1, v1, v2, ag, nw2, st3, m0, m2, m3, m4, m5, m6, e4, e5, e6, e7, e8, o4, O5, O6, O7, O8, h1, h2, h3, h4, h5, h6, h7, this, gtt]
                        · have h7' : e.o ≤ 1099511627776 := by omega
                          simp [nw1, fa, fb, l0, l1, v1, v2, ag, nw2, st3, m0, m2, m3, m4, m5, m6, e4, e5, e6, e7, e8, o4, O5, O6, O7, O8, h1, h2, h3, h4, h5, h6, h7, h1', h2', h3', h4', h5', h6', h7', f1, f2, eqn, hc]
          · have hm : mayE e = false := by
              unfold mayE
              rw [if_neg hv, if_neg k1, if_neg k2, if_neg k3, if_neg k4]
            rw [hm]
            refine ⟨s3, ?_, g3⟩
            generalize R (d + 3) = r at *
            simp [nw1, fa, fb, l0, l1, v1, v2, ag, nw2, st3, m0, k1, k2, k3, k4]
end
end Go.Proofs.YtlhbidbdmdcdeaaGreatDoor

/-
  The document's numbers and sums: what the functions compute, in any store. No conditions but those named in each line.
-/
namespace Go.Proofs.YtlhbidbdmdcdeaaGreatDoor
open Go Go.Abs Go.Abs.F
set_option linter.unusedVariables false
section
variable {s t : St} {x y : S} {bs cs : List UInt8}

theorem rvput_run (d : Nat) (wf : s.wf) (n : Nat) (hn : n < 2 ^ 64) : ∃ t, R (d + 1) 43 [I .u64 n] s = some (Z (.str (vput n)), t) ∧ Gr s t := by
  rw [f43_run]
  unfold f43
  obtain ⟨m, x, acc, τ, lp, hF, hm, hacc⟩ := vput_loop (R d) wf n hn
  have lp' : loops (f43_l1 (R d) 8192) 8192 [I .u64 n, Z .nils] s = some (.exit 0 [I .u64 m, Z x], τ) := lp
  have nw := lit1 τ m
  have hb : (UInt8.ofNat m).toNat = m := by rw [byte_nat]; omega
  obtain ⟨x', t, ap, hF', _⟩ := FB.lit hF (cs := [UInt8.ofNat m]) (by simp; omega)
  rw [hacc.1] at hF'
  refine ⟨t, ?_, hF'.gr⟩
  have hw : IntKind.u8.wrap (m : Int) = (m : Int) := by rw [wrap8]; omega
  have hs := RB.str hF'.rd
  simp only [U, List.map_cons, List.map_nil, List.length_cons, List.length_nil, Nat.zero_add, hb] at ap
  simp [lp', hw, nw, ap, hs]

theorem four_run (d : Nat) (wf : s.wf) (q : Nat) : ∃ t, R (d + 1) 44 [I .u32 q] s = some (Z (.str (four q)), t) ∧ Gr s t := by
  rw [f44_run]
  unfold f44
  have nw := lit4 s (q % 256) (q / 2 ^ 8 % 256) (q / 2 ^ 16 % 256) (q / 2 ^ 24 % 256)
  have hU : U (four q) = [.int .u8 (q % 256 : Nat), .int .u8 (q / 2 ^ 8 % 256 : Nat), .int .u8 (q / 2 ^ 16 % 256 : Nat), .int .u8 (q / 2 ^ 24 % 256 : Nat)] := by
    simp only [U, four, List.map_cons, List.map_nil, byte_nat]
  rw [← hU] at nw
  have c0 := wrap8 q
  have c1 := wrap8 (q / 2 ^ 8)
  have c2 := wrap8 (q / 2 ^ 16)
  have c3 := wrap8 (q / 2 ^ 24)
  have r1 : aBin .shr (I .u32 q) (I .u64 8) = some (I .u32 ((q / 2 ^ 8 : Nat))) := shr_nat .u32 q 8 (by decide)
  have r2 : aBin .shr (I .u32 q) (I .u64 16) = some (I .u32 ((q / 2 ^ 16 : Nat))) := shr_nat .u32 q 16 (by decide)
  have r3 : aBin .shr (I .u32 q) (I .u64 24) = some (I .u32 ((q / 2 ^ 24 : Nat))) := shr_nat .u32 q 24 (by decide)
  have g : Gr s (s.push (.cells true (U (four q)))) := Gr.push wf _
  have rd : RB (s.push (.cells true (U (four q)))) (.sl s.size 0 4 (.known 4)) (four q) := (Fr.lit 1 wf (n := 4) (vs := U (four q)) rfl).rd
  have hs := rd.str
  refine ⟨_, ?_, g⟩
  generalize s.push (.cells true (U (four q))) = t at nw hs ⊢
  generalize ((q / 2 ^ 8 % 256 : Nat) : Int) = Q1 at nw c1
  generalize ((q / 2 ^ 16 % 256 : Nat) : Int) = Q2 at nw c2
  generalize ((q / 2 ^ 24 % 256 : Nat) : Int) = Q3 at nw c3
  generalize ((q % 256 : Nat) : Int) = Q0 at nw c0
  generalize ((q / 2 ^ 8 : Nat) : Int) = P1 at r1 c1
  generalize ((q / 2 ^ 16 : Nat) : Int) = P2 at r2 c2
  generalize ((q / 2 ^ 24 : Nat) : Int) = P3 at r3 c3
  generalize (q : Int) = Q at *
  simp [c0, c1, c2, c3, r1, r2, r3, nw, hs]

theorem rsum_run (d : Nat) (hl : bs.length ≤ 8000) : R (d + 2) 45 [Z (.str bs)] s = some (I .u32 (sumB 1 bs), s) := by
  have key : R (d + 1) 71 [I .u32 1, Z (.str bs)] s = some (I .u32 (sumB 1 bs), s) := by
    rw [f71_run]
    unfold f71
    have hll := len_str bs
    obtain ⟨j, τ, lp, hj, hτ⟩ := loops_inv (f := f71_l1 (R d) 8192) (fun q v u => ∃ k n : Nat, q + k = bs.length ∧ v = [Z (.str bs), I .u64 n, I .i64 k] ∧ u = s ∧ n < 4294967291 ∧ sumB n (bs.drop k) = sumB 1 bs)
      (fun j u => j = .exit 0 [I .u64 (sumB 1 bs)] ∧ u = s) (by
      rintro q v u ⟨k, n, hk, rfl, rfl, hn, hg⟩
      by_cases hkl : k < bs.length
      · left
        have hc : bs[k]? = some bs[k] := List.getElem?_eq_getElem hkl
        have hd : bs.drop k = bs[k] :: bs.drop (k + 1) := List.drop_eq_getElem_cons hkl
        rw [hd] at hg
        have ix := at_str (n := (k : Int)) rfl hc
        have hcb : bs[k].toNat < 256 := bs[k].toNat_lt
        obtain ⟨A1, A2, A3, A4, hA4, m1, m2, m3, m4⟩ : ∃ A1 A2 A3 A4 : Int, A4 = (((n * 257 + bs[k].toNat + 1) % 4294967291 : Nat) : Int) ∧ aBin .mul (I .u64 n) (I .u64 257) = some (I .u64 A1) ∧ aBin .add (I .u64 A1) (I .u64 bs[k].toNat) = some (I .u64 A2) ∧
            aBin .add (I .u64 A2) (I .u64 1) = some (I .u64 A3) ∧ aBin .rem (I .u64 A3) (I .u64 4294967291) = some (I .u64 A4) := ⟨_, _, _, _, rfl, More.step n bs[k].toNat hn hcb u⟩
        have hw : IntKind.u64.wrap (bs[k].toNat : Int) = (bs[k].toNat : Int) := wrap64 _ (by omega)
        have w1 : IntKind.i64.wrap ((k : Int) + 1) = ((k + 1 : Nat) : Int) := by rw [wrap_in _ (by omega) (by omega)]; omega
        have c0 : ((k : Int) < (bs.length : Int)) = True := eq_true (by omega)
        refine ⟨[Z (.str bs), I .u64 (((n * 257 + bs[k].toNat + 1) % 4294967291 : Nat)), I .i64 ((k + 1 : Nat) : Int)], u, q - 1, ?_, by omega, k + 1, _, by omega, rfl, rfl, Nat.mod_lt _ (by decide), hg⟩
        unfold f71_l1
        generalize ((k + 1 : Nat) : Int) = K1 at w1 ⊢
        rw [← hA4]
        generalize (bs[k].toNat : Int) = C at m2 ix hw
        generalize (k : Int) = K at w1 ix c0 ⊢
        simp only [jn_normal, bd_some, List.getD_cons_zero, List.getD_cons_succ, hll, lss_int, br_true, decide_true, c0, ix, m1, m2, m3, m4, aConv_int, hw, add_int, w1]
      · right
        have hk' : k = bs.length := by omega
        have c0 : ¬ ((k : Int) < (bs.length : Int)) := by omega
        have hg' : n = sumB 1 bs := by
          rw [List.drop_eq_nil_of_le (by omega)] at hg
          exact hg
        refine ⟨.exit 0 [I .u64 (sumB 1 bs)], u, ?_, (fun v hv => by cases hv), rfl, rfl⟩
        unfold f71_l1
        rw [hg']
        simp [hll, c0]) 8192 bs.length [Z (.str bs), I .u64 1, I .i64 0] s ⟨0, 1, rfl, rfl, rfl, by decide, rfl⟩ (by omega)
    subst hj; subst hτ
    have hlt := sumB_lt bs 1 (by decide)
    have h32 : IntKind.u32.wrap (sumB 1 bs : Int) = (sumB 1 bs : Int) := by rw [wrap32, Nat.mod_eq_of_lt (by omega)]
    have e1 : aConv .u64 (I .u32 1) = some (I .u64 1) := rfl
    have e2 : aBin .rem (I .u64 1) (I .u64 4294967291) = some (I .u64 1) := rfl
    simp [e1, e2, lp, h32]
  rw [f45_run]
  unfold f45
  simp [key]

theorem rgetN_run (r : CallF) (N : Nat) (hl : bs.length ≤ 100000) {at_ : Nat} (ha : at_ ≤ 100000) (res : Option (Nat × Nat)) (hres : getN bs at_ 10 0 0 = res) :
    loops (f42_l1 r N) 8192 [Z (.str bs), I .i64 at_, I .u64 0, I .i64 0] s = some (vjo at_ res, s) := by
  obtain ⟨j, τ, lp, hj, hτ⟩ := loops_inv (f := f42_l1 r N) (fun q v u => ∃ k n : Nat, q + k = 10 ∧ v = [Z (.str bs), I .i64 at_, I .u64 n, I .i64 k] ∧ u = s ∧ n < 2 ^ 64 ∧ getN bs at_ q k n = res)
    (fun j u => j = vjo at_ res ∧ u = s) (by
    rintro q v u ⟨k, n, hk, rfl, rfl, hn, hg⟩
    have hll := len_str bs
    cases q with
    | zero =>
      right
      have hk' : k = 10 := by omega
      subst hk'
      have : res = none := by rw [← hg]; rfl
      subst this
      refine ⟨.exit 0 [I .i64 at_], u, ?_, (fun v hv => by cases hv), rfl, rfl⟩
      unfold f42_l1
      simp
    | succ q =>
      have c0 : ((k : Int) < 10) = True := eq_true (by omega)
      have w0 : IntKind.i64.wrap ((at_ : Int) + k) = ((at_ + k : Nat) : Int) := by rw [wrap_in _ (by omega) (by omega)]; omega
      unfold getN at hg
      cases hc : bs[at_ + k]? with
      | none =>
        rw [hc] at hg
        subst hg
        right
        have hle : bs.length ≤ at_ + k := by simpa using hc
        have c1 : (((at_ + k : Nat) : Int) < (bs.length : Int)) = False := eq_false (by omega)
        refine ⟨.exit 0 [I .i64 at_], u, ?_, (fun v hv => by cases hv), rfl, rfl⟩
        unfold f42_l1
        generalize ((at_ + k : Nat) : Int) = A at w0 c1 ⊢
        generalize (k : Int) = K at *
        simp [c0, w0, hll, c1]
      | some c =>
        rw [hc] at hg
        simp only at hg
        have hlt := (List.getElem?_eq_some_iff.1 hc).1
        have c1 : (((at_ + k : Nat) : Int) < (bs.length : Int)) = True := eq_true (by omega)
        have ix := at_str (n := ((at_ + k : Nat) : Int)) rfl hc
        have hcb : c.toNat < 256 := c.toNat_lt
        have hcv : IntKind.u64.wrap (c.toNat : Int) = (c.toNat : Int) := wrap64 _ (by omega)
        have hand : aBin .and (I .u64 c.toNat) (I .u64 127) = some (I .u64 (c.toNat % 128 : Nat)) := by
          have := and_u64 c.toNat 127 (by omega) (by decide)
          rw [show (c.toNat &&& 127 : Nat) = c.toNat % 128 from Nat.and_two_pow_sub_one_eq_mod c.toNat 7] at this
          exact this
        have hm7 : IntKind.i64.wrap (7 * (k : Int)) = ((7 * k : Nat) : Int) := by rw [wrap_in _ (by omega) (by omega)]; omega
        have hm8 : IntKind.u64.wrap ((7 * k : Nat) : Int) = ((7 * k : Nat) : Int) := wrap64 _ (by omega)
        have w1 : IntKind.i64.wrap ((k : Int) + 1) = ((k + 1 : Nat) : Int) := by rw [wrap_in _ (by omega) (by omega)]; omega
        have w2 : IntKind.i64.wrap (((at_ + k : Nat) : Int) + 1) = ((at_ + k + 1 : Nat) : Int) := by rw [wrap_in _ (by omega) (by omega)]; omega
        by_cases h9 : k = 9 ∧ 1 < c.toNat
        · rw [if_pos h9] at hg
          subst hg
          right
          have d9 : ((k : Int) = 9) = True := eq_true (by omega)
          have d1 : ((1 : Int) < (c.toNat : Int)) = True := eq_true (by omega)
          refine ⟨.exit 0 [I .i64 at_], u, ?_, (fun v hv => by cases hv), rfl, rfl⟩
          unfold f42_l1
          generalize ((at_ + k : Nat) : Int) = A at w0 c1 ix ⊢
          generalize (k : Int) = K at *
          generalize (c.toNat : Int) = C at *
          simp [c0, w0, hll, c1, ix, hcv, d9, d1]
        · rw [if_neg h9] at hg
          have hpow : c.toNat % 128 * 2 ^ (7 * k) < 2 ^ 64 := by
            by_cases e9 : k = 9
            · subst e9
              have : c.toNat % 128 ≤ 1 := by omega
              calc c.toNat % 128 * 2 ^ (7 * 9) ≤ 1 * 2 ^ 63 := Nat.mul_le_mul_right _ this
                _ < 2 ^ 64 := by decide
            · have hk8 : 7 * k ≤ 56 := by omega
              have h128 : c.toNat % 128 < 2 ^ 7 := by omega
              calc c.toNat % 128 * 2 ^ (7 * k) ≤ c.toNat % 128 * 2 ^ 56 := Nat.mul_le_mul_left _ (Nat.pow_le_pow_right (by omega) hk8)
                _ < 2 ^ 64 := by omega
          have hshl := shl_u64 (c.toNat % 128) (7 * k) hpow (by omega)
          have hor := or_u64 n (c.toNat % 128 * 2 ^ (7 * k)) hn hpow
          have hn' : (n ||| c.toNat % 128 * 2 ^ (7 * k)) < 2 ^ 64 := Nat.or_lt_two_pow hn hpow
          obtain ⟨M, hM⟩ : ∃ M, M = (n ||| c.toNat % 128 * 2 ^ (7 * k)) := ⟨_, rfl⟩
          rw [← hM] at hor hn' hg
          have hcase : ((k : Int) = 9) = False ∨ (((k : Int) = 9) = True ∧ ((1 : Int) < (c.toNat : Int)) = False) := by
            by_cases e9 : k = 9
            · exact .inr ⟨eq_true (by omega), eq_false (fun h => h9 ⟨e9, by omega⟩)⟩
            · exact .inl (eq_false (by omega))
          by_cases h128 : 128 ≤ c.toNat
          · rw [if_pos h128] at hg
            left
            have d1 : ((c.toNat : Int) < (128 : Int)) = False := eq_false (by omega)
            refine ⟨[Z (.str bs), I .i64 at_, I .u64 M, I .i64 ((k + 1 : Nat) : Int)], u, q, ?_, rfl, k + 1, M, by omega, rfl, rfl, hn', hg⟩
            generalize ((k + 1 : Nat) : Int) = K1 at w1 ⊢
            unfold f42_l1
            generalize ((c.toNat % 128 * 2 ^ (7 * k) : Nat) : Int) = SH at hshl hor
            generalize ((c.toNat % 128 : Nat) : Int) = L at hand hshl
            generalize ((7 * k : Nat) : Int) = K7 at hm7 hm8 hshl
            generalize ((at_ + k : Nat) : Int) = A at w0 c1 ix
            generalize (k : Int) = K at *
            generalize (c.toNat : Int) = C at *
            rcases hcase with e9 | ⟨e9, e1⟩
            · simp [c0, w0, hll, c1, ix, hcv, e9, hand, hm7, hm8, hshl, hor, d1, w1]
            · simp [c0, w0, hll, c1, ix, hcv, e9, e1, hand, hm7, hm8, hshl, hor, d1, w1]
          · rw [if_neg h128] at hg
            right
            have d1 : ((c.toNat : Int) < (128 : Int)) = True := eq_true (by omega)
            by_cases hz : 0 < k ∧ c.toNat = 0
            · rw [if_pos hz] at hg
              subst hg
              have d2 : ((0 : Int) < (k : Int)) = True := eq_true (by omega)
              have d3 : ((c.toNat : Int) = 0) = True := eq_true (by omega)
              refine ⟨.exit 0 [I .i64 at_], u, ?_, (fun v hv => by cases hv), rfl, rfl⟩
              unfold f42_l1
              generalize ((c.toNat % 128 * 2 ^ (7 * k) : Nat) : Int) = SH at hshl hor
              generalize ((c.toNat % 128 : Nat) : Int) = L at hand hshl
              generalize ((7 * k : Nat) : Int) = K7 at hm7 hm8 hshl
              generalize ((at_ + k : Nat) : Int) = A at w0 c1 ix
              generalize (k : Int) = K at *
              generalize (c.toNat : Int) = C at *
              rcases hcase with e9 | ⟨e9, e1⟩
              · simp [c0, w0, hll, c1, ix, hcv, e9, hand, hm7, hm8, hshl, hor, d1, d2, d3]
              · simp [c0, w0, hll, c1, ix, hcv, e9, e1, hand, hm7, hm8, hshl, hor, d1, d2, d3]
            · rw [if_neg hz] at hg
              subst hg
              refine ⟨.ret (.tup [.s (.int .u64 M), .s (.int .i64 ((at_ + k + 1 : Nat) : Int)), .s (.int .i64 0)]), u, ?_, (fun v hv => by cases hv), rfl, rfl⟩
              have hcase2 : ((c.toNat : Int) = 0) = False ∨ (((c.toNat : Int) = 0) = True ∧ ((0 : Int) < (k : Int)) = False) := by
                by_cases e0 : c.toNat = 0
                · exact .inr ⟨eq_true (by omega), eq_false (fun h => hz ⟨by omega, e0⟩)⟩
                · exact .inl (eq_false (by omega))
              unfold f42_l1
              generalize ((c.toNat % 128 * 2 ^ (7 * k) : Nat) : Int) = SH at hshl hor
              generalize ((c.toNat % 128 : Nat) : Int) = L at hand hshl
              generalize ((7 * k : Nat) : Int) = K7 at hm7 hm8 hshl
              generalize ((at_ + k + 1 : Nat) : Int) = A1 at w2 ⊢
              generalize ((at_ + k : Nat) : Int) = A at w0 w2 c1 ix
              generalize (k : Int) = K at *
              generalize (c.toNat : Int) = C at *
              rcases hcase with e9 | ⟨e9, e1⟩ <;> rcases hcase2 with d2 | ⟨d2, d3⟩
              · simp [c0, w0, hll, c1, ix, hcv, e9, hand, hm7, hm8, hshl, hor, d1, d2, w2, retT, allV]
              · simp [c0, w0, hll, c1, ix, hcv, e9, hand, hm7, hm8, hshl, hor, d1, d2, d3, w2, retT, allV]
              · simp [c0, w0, hll, c1, ix, hcv, e9, e1, hand, hm7, hm8, hshl, hor, d1, d2, w2, retT, allV]
              · simp [c0, w0, hll, c1, ix, hcv, e9, e1, hand, hm7, hm8, hshl, hor, d1, d2, d3, w2, retT, allV]) 8192 10 [Z (.str bs), I .i64 at_, I .u64 0, I .i64 0] s ⟨0, 0, rfl, rfl, rfl, by decide, hres⟩ (by omega)
  subst hτ
  subst hj
  exact lp

theorem rget_run (d : Nat) (hl : bs.length ≤ 100000) {at_ : Nat} (ha : at_ ≤ 100000) : R (d + 1) 42 [Z (.str bs), I .i64 at_] s = some (vres at_ bs.length (vget bs at_), s) := by
  rw [f42_run]
  unfold f42
  have hll := len_str bs
  have c0 : ¬ (at_ : Int) < 0 := by omega
  by_cases hle : at_ ≤ bs.length
  · have c1 : ¬ (bs.length : Int) < (at_ : Int) := by omega
    have lp := rgetN_run (s := s) (R d) 8192 hl ha _ rfl
    unfold vget
    rw [if_pos hle]
    cases hg : getN bs at_ 10 0 0 with
    | none =>
      rw [hg] at lp
      simp [c0, c1, hll, lp, vjo, vres, hle, retT, allV]
    | some p =>
      obtain ⟨n, e⟩ := p
      rw [hg] at lp
      simp [c0, c1, hll, lp, vjo, vres]
  · have c1 : (bs.length : Int) < (at_ : Int) := by omega
    unfold vget
    rw [if_neg hle]
    simp [c0, c1, hll, vres, hle, retT, allV]

end
end Go.Proofs.YtlhbidbdmdcdeaaGreatDoor

/-
  The document's own bytes of entries. No conditions but those named in each line.
-/
namespace Go.Proofs.YtlhbidbdmdcdeaaGreatDoor
open Go Go.Abs Go.Abs.F
set_option linter.unusedVariables false
section
variable {s t : St} {x y : S} {l : Bs} {i c : Nat}

abbrev resS (o : Option Bs) : T := match o with
  | some b => .tup [.s (.str b), .s (.int .i64 0)]
  | none => .tup [.s (.str []), .s (.int .i64 1)]

set_option maxHeartbeats 4000000 in
theorem rput_run (d : Nat) (wf : s.wf) (e : Ent) (hw : EWf e) (hx : e.x.length ≤ 8000) : ∃ t, R (d + 5) 32 [AE e] s = some (resS (putE e), t) ∧ Gr s t := by
  rw [f32_run]
  unfold f32
  obtain ⟨n, hn⟩ : ∃ n, n = s.size := ⟨_, rfl⟩
  obtain ⟨s1, hs1⟩ : ∃ s1, s1 = s.push (.cells true (cE e)) := ⟨_, rfl⟩
  have nw1 : aNew s (nBox (AE e)) = some (Z (.ptr n 0), s1) := by rw [hs1, hn]; rfl
  have g1 : Gr s s1 := by rw [hs1]; exact Gr.push wf _
  have z1 : s1.size = n + 1 := by rw [hs1, hn]; rfl
  have b1 : s1.get n = some (.cells true (cE e)) := by rw [hs1, hn]; exact St.get_push_same _ _
  have l8 := load8 (g := s1.get) b1
  obtain ⟨s2, e2, g2⟩ := rmayE_run d g1.wf e hx
  cases hm : mayE e with
  | false =>
    rw [hm] at e2
    have hp : putE e = none := by unfold putE; rw [hm]; rfl
    rw [hp]
    refine ⟨s2, ?_, g1.trans g2⟩
    generalize R (d + 4) = r at *
    simp [nw1, l8, e2, retT, allV]
  | true =>
    rw [hm] at e2
    have hp : putE e = some (putB e) := by unfold putE; rw [hm]; rfl
    rw [hp]
    obtain ⟨r1, r2, r3, r4, hk1, hk2, hk3, hk4⟩ := mayE_range hm
    have keep : ∀ {u : St}, Gr s1 u → ∀ (j : Nat) (v : S), (cE e)[j]? = some v → aLoad1 (Z (.ptr n j)) u.get = some (Z v) := fun g j v hv => aLoad1_of (g.get b1 g1.wf) hv
    have fa : ∀ j, aFieldAddr j (Z (.ptr n 0)) = some (Z (.ptr n j)) := fun j => by simp [aFieldAddr]
    have wk : IntKind.u8.wrap e.k = ((UInt8.ofNat e.k.toNat).toNat : Int) := by
      have := wrap8 e.k.toNat
      rw [show ((e.k.toNat : Nat) : Int) = e.k by omega] at this
      rw [this, byte_nat]
    obtain ⟨kb, hkb⟩ : ∃ kb, kb = UInt8.ofNat e.k.toNat := ⟨_, rfl⟩
    rw [← hkb] at wk
    obtain ⟨s4, hs4⟩ : ∃ s4, s4 = s2.push (.cells true (U [kb])) := ⟨_, rfl⟩
    have nw4 : aNew s2 (nSlice 1 (aFill [.int .u8 0] [(0, 1, I .u8 kb.toNat)])) = some (Z (.sl s2.size 0 1 (.known 1)), s4) := by rw [hs4, lit1]; rfl
    have f4 : FB s2 s4 (.sl s2.size 0 1 (.known 1)) [kb] := by rw [hs4]; exact Fr.lit 1 g2.wf rfl
    have bs4 : aBytesStr (Z (.sl s2.size 0 1 (.known 1))) s4.get = some (Z (.str [kb])) := RB.str f4.rd
    obtain ⟨s5, e5, g5⟩ := rvput_run (d + 3) f4.gr.wf e.v.toNat (by omega)
    have bs5 : aBytesStr (Z (.sl s2.size 0 1 (.known 1))) s5.get = some (Z (.str [kb])) := RB.str (Rd.gr f4.rd (fun c hc => (f4.new c hc).2) g5)
    have wv : IntKind.u64.wrap e.v = (e.v.toNat : Int) := by rw [wrap_u64_in _ (by omega) (by omega)]; omega
    have g14 := g2.trans f4.gr
    have g15 := g14.trans g5
    have lk2 := keep g2 0 _ rfl
    have lv4 := keep g14 1 _ rfl
    have lk5 := keep g15 0 _ rfl
    have hov : overlay 9 s5.get (ovO 3 s2.size (nSlice 1 (aFill [.int .u8 0] [(0, 1, I .u8 kb.toNat)])) []) = s5.get := rfl
    have vl := vput_len e.v.toNat
    have ad1 : aBin .add (Z (.str [kb])) (Z (.str (vput e.v.toNat))) = some (Z (.str ([kb] ++ vput e.v.toNat))) := str_add _ _ (by simp; omega)
    have hA : ([kb] ++ vput e.v.toNat).length ≤ 12 := by simp; omega
    have hB : putB e = ([kb] ++ vput e.v.toNat) ++ putNs (nums e) ++ e.x := by rw [hkb]; simp [putB]
    obtain ⟨acc, hacc⟩ : ∃ acc, acc = [kb] ++ vput e.v.toNat := ⟨_, rfl⟩
    rw [← hacc] at ad1 hA hB
    simp only [Nat.add_assoc, Nat.reduceAdd] at e5
    -- a number more
    have num : ∀ (u : St) (a : Bs) (m : Nat), Gr s1 u → a.length ≤ 1000 → m < 2 ^ 64 → ∃ u', R (d + 4) 43 [I .u64 m] u = some (Z (.str (vput m)), u') ∧ aBin .add (Z (.str a)) (Z (.str (vput m))) = some (Z (.str (a ++ vput m))) ∧ Gr s1 u' := fun u a m g ha hm => by
      obtain ⟨u', e, g'⟩ := rvput_run (d + 3) g.wf m hm
      have := vput_len m
      exact ⟨u', e, str_add _ _ (by omega), g.trans g'⟩
    have eqf : ∀ m : Int, ¬ e.k = m → aBin .eql (I .i64 e.k) (I .i64 m) = some (B false) := fun m h => by rw [eql_int, decide_eq_false h]
    have eqt : ∀ m : Int, e.k = m → aBin .eql (I .i64 e.k) (I .i64 m) = some (B true) := fun m h => by rw [eql_int, decide_eq_true h]
    rcases (by omega : e.k = 1 ∨ e.k = 2 ∨ e.k = 3 ∨ e.k = 4) with hk | hk | hk | hk
    · obtain ⟨hxx, i0, i1, t0, t1, f0, f1, o1⟩ := hk1 hk
      obtain ⟨w0, w1⟩ := hw
      have wi : IntKind.u64.wrap e.i = (e.i.toNat : Int) := by rw [wrap_u64_in _ (by omega) (by omega)]; omega
      have wt : IntKind.u64.wrap e.t = (e.t.toNat : Int) := by rw [wrap_u64_in _ (by omega) (by omega)]; omega
      have wf : IntKind.u64.wrap e.f = (e.f.toNat : Int) := by rw [wrap_u64_in _ (by omega) (by omega)]; omega
      have wo : IntKind.u64.wrap e.o = (e.o.toNat : Int) := by rw [wrap_u64_in _ (by omega) (by omega)]; omega
      have wu : IntKind.u64.wrap e.u = (e.u.toNat : Int) := by rw [wrap_u64_in _ (by omega) (by omega)]; omega
      obtain ⟨u6, e6, a6, g6⟩ := num s5 (acc) e.i.toNat g15 (by   omega) (by omega)
      obtain ⟨u7, e7, a7, g7⟩ := num u6 (acc ++ vput e.i.toNat) e.t.toNat g6 (by have := vput_len e.i.toNat; simp only [List.length_append]; omega) (by omega)
      obtain ⟨u8, e8, a8, g8⟩ := num u7 (acc ++ vput e.i.toNat ++ vput e.t.toNat) e.f.toNat g7 (by have := vput_len e.i.toNat; have := vput_len e.t.toNat; simp only [List.length_append]; omega) (by omega)
      obtain ⟨u9, e9, a9, g9⟩ := num u8 (acc ++ vput e.i.toNat ++ vput e.t.toNat ++ vput e.f.toNat) e.o.toNat g8 (by have := vput_len e.i.toNat; have := vput_len e.t.toNat; have := vput_len e.f.toNat; simp only [List.length_append]; omega) (by omega)
      obtain ⟨u10, e10, a10, g10⟩ := num u9 (acc ++ vput e.i.toNat ++ vput e.t.toNat ++ vput e.f.toNat ++ vput e.o.toNat) e.u.toNat g9 (by have := vput_len e.i.toNat; have := vput_len e.t.toNat; have := vput_len e.f.toNat; have := vput_len e.o.toNat; simp only [List.length_append]; omega) (by omega)
      have hres : putB e = acc ++ vput e.i.toNat ++ vput e.t.toNat ++ vput e.f.toNat ++ vput e.o.toNat ++ vput e.u.toNat := by
        rw [hB, hxx]
        simp [nums, hk, putNs]
      have L2s5 := keep g15 2 _ rfl
      have L3s5 := keep g15 3 _ rfl
      have L3u6 := keep g6 3 _ rfl
      have L4s5 := keep g15 4 _ rfl
      have L4u6 := keep g6 4 _ rfl
      have L4u7 := keep g7 4 _ rfl
      have L5s5 := keep g15 5 _ rfl
      have L5u6 := keep g6 5 _ rfl
      have L5u7 := keep g7 5 _ rfl
      have L5u8 := keep g8 5 _ rfl
      have L6s5 := keep g15 6 _ rfl
      have L6u6 := keep g6 6 _ rfl
      have L6u7 := keep g7 6 _ rfl
      have L6u8 := keep g8 6 _ rfl
      have L6u9 := keep g9 6 _ rfl
      have E1 := eqt 1 hk
      refine ⟨u10, ?_, g1.trans g10⟩
      rw [hres]
      generalize acc ++ vput e.i.toNat ++ vput e.t.toNat ++ vput e.f.toNat ++ vput e.o.toNat ++ vput e.u.toNat = A10 at *
      generalize acc ++ vput e.i.toNat ++ vput e.t.toNat ++ vput e.f.toNat ++ vput e.o.toNat = A9 at *
      generalize acc ++ vput e.i.toNat ++ vput e.t.toNat ++ vput e.f.toNat = A8 at *
      generalize acc ++ vput e.i.toNat ++ vput e.t.toNat = A7 at *
      generalize acc ++ vput e.i.toNat = A6 at *
      clear num hA hB vl r1 r2 keep
      generalize ((e.v.toNat : Nat) : Int) = EV at *
      generalize ((e.i.toNat : Nat) : Int) = Ni at *
      generalize ((e.t.toNat : Nat) : Int) = Nt at *
      generalize ((e.f.toNat : Nat) : Int) = Nf at *
      generalize ((e.o.toNat : Nat) : Int) = No at *
      generalize ((e.u.toNat : Nat) : Int) = Nu at *
      generalize R (d + 4) = r at *
      simp [-eql_int, nw1, l8, e2, fa, lk2, wk, nw4, bs4, lv4, wv, e5, ad1, hov, lk5, bs5, E1, L2s5, L3s5, L3u6, L4s5, L4u6, L4u7, L5s5, L5u6, L5u7, L5u8, L6s5, L6u6, L6u7, L6u8, L6u9, wi, wt, wf, wo, wu, e6, e7, e8, e9, e10, a6, a7, a8, a9, a10, retT, allV]
    · obtain ⟨q1, q2, q3⟩ := hk2 hk
      have wi : IntKind.u64.wrap e.i = (e.i.toNat : Int) := by rw [wrap_u64_in _ (by omega) (by omega)]; omega
      obtain ⟨u6, e6, a6, g6⟩ := num s5 acc e.i.toNat g15 (by omega) (by omega)
      have hres : putB e = acc ++ vput e.i.toNat := by
        have hxx : e.x = [] := by rw [q3]; rfl
        rw [hB, hxx]
        simp [nums, hk, putNs]
      have l2 := keep g15 2 _ rfl
      refine ⟨u6, ?_, g1.trans g6⟩
      rw [hres]
      clear num hA hB vl r1 r2 keep
      generalize ((e.v.toNat : Nat) : Int) = EV at *
      generalize ((e.i.toNat : Nat) : Int) = EI at *
      generalize R (d + 4) = r at *
      have E1 := eqf 1 (by omega)
      have E2 := eqt 2 hk
      simp [-eql_int, nw1, l8, e2, fa, lk2, wk, nw4, bs4, lv4, wv, e5, ad1, hov, lk5, bs5, E1, E2, l2, wi, e6, a6, retT, allV]
    · have hres : putB e = acc := by
        have hxx : e.x = [] := by rw [(hk3 hk).2]; rfl
        rw [hB, hxx]
        simp [nums, hk, putNs]
      refine ⟨s5, ?_, g1.trans g15⟩
      rw [hres]
      clear num hA hB vl r1 r2 keep
      generalize ((e.v.toNat : Nat) : Int) = EV at *
      generalize ((e.i.toNat : Nat) : Int) = EI at *
      generalize R (d + 4) = r at *
      have E1 := eqf 1 (by omega)
      have E2 := eqf 2 (by omega)
      have E4 := eqf 4 (by omega)
      simp [-eql_int, nw1, l8, e2, fa, lk2, wk, nw4, bs4, lv4, wv, e5, ad1, hov, lk5, bs5, E1, E2, E4, retT, allV]
    · obtain ⟨q1, q2, q3⟩ := hk4 hk
      obtain ⟨u6, e6, a6, g6⟩ := num s5 acc e.x.length g15 (by omega) (by omega)
      have hres : putB e = acc ++ vput e.x.length ++ e.x := by
        rw [hB]
        simp [nums, hk, putNs]
      have l7 := keep g15 7 _ rfl
      have l7' := keep g6 7 _ rfl
      have hl : aLenStr (Z (.str e.x)) = some (I .i64 ((e.x.length : Nat) : Int)) := rfl
      have wx : IntKind.u64.wrap ((e.x.length : Nat) : Int) = ((e.x.length : Nat) : Int) := wrap64 _ (by omega)
      have a7 : aBin .add (Z (.str (acc ++ vput e.x.length))) (Z (.str e.x)) = some (Z (.str (acc ++ vput e.x.length ++ e.x))) := str_add _ _ (by have := vput_len e.x.length; simp; omega)
      refine ⟨u6, ?_, g1.trans g6⟩
      rw [hres]
      generalize acc ++ vput e.x.length ++ e.x = A7 at *
      generalize acc ++ vput e.x.length = A6 at *
      have E1 := eqf 1 (by omega)
      have E2 := eqf 2 (by omega)
      have E4 := eqt 4 hk
      generalize ((e.x.length : Nat) : Int) = XL at *
      clear num hA hB vl r1 r2 keep
      generalize ((e.v.toNat : Nat) : Int) = EV at *
      generalize ((e.i.toNat : Nat) : Int) = EI at *
      generalize R (d + 4) = r at *
      simp [-eql_int, nw1, l8, e2, fa, lk2, wk, nw4, bs4, lv4, wv, e5, ad1, hov, lk5, bs5, E1, E2, E4, l7, hl, wx, e6, a6, l7', a7, retT, allV]
end
end Go.Proofs.YtlhbidbdmdcdeaaGreatDoor

/-
  The rows of the laws: what Rows computes, in any store. No conditions but those named in each line.
-/
namespace Go.Proofs.YtlhbidbdmdcdeaaGreatDoor
open Go Go.Abs Go.Abs.F
set_option linter.unusedVariables false

structure RowSt where
  out : List Ent
  there : List Nat
  view : Nat
  id : Nat
  at_ : Nat

def sealB (n : Nat) : Bs := [115, 101, 97, 108, 32] ++ (if n = 0 then [49] else if n = 1 then [57] else [51, 51])

def rowStep (σ : RowSt) (k : Nat) : RowSt :=
  if k % 8 = 7 then { σ with out := σ.out ++ [{ ent0 with k := 3, v := (σ.view + 1 : Nat) }], view := σ.view + 1 }
  else if k % 8 = 6 then { σ with out := σ.out ++ [{ ent0 with k := 4, v := (σ.view : Nat), x := sealB (k / 8 % 3) }] }
  else if 3 < k % 8 ∧ 0 < σ.there.length then
    { σ with out := σ.out ++ [{ ent0 with k := 2, v := (σ.view : Nat), i := (σ.there.getD (k / 8 % σ.there.length) 0 : Nat) }],
             there := σ.there.take (k / 8 % σ.there.length) ++ σ.there.drop (k / 8 % σ.there.length + 1) }
  else { out := σ.out ++ [{ k := 1, v := (σ.view : Nat), i := (σ.id + 1 : Nat), t := (k / 8 % 4 : Nat), f := (σ.at_ : Nat), o := (σ.at_ + 1 + k / 8 % 30 : Nat), u := (k % 4294967296 : Nat), x := [] }],
         there := σ.there ++ [σ.id + 1], view := σ.view, id := σ.id + 1, at_ := σ.at_ + 1 + k / 8 % 30 }

def rowsG (ks : List Nat) : RowSt := ks.foldl rowStep ⟨[], [], 0, 0, 0⟩
def rowK (v : Int) : Nat := (IntKind.u64.wrap v).toNat
def rowsE (vs : List Int) : List Ent := (rowsG ((vs.take 40).map rowK)).out

abbrev I64 (vs : List Int) : List S := vs.map (S.int .i64)
abbrev N64 (vs : List Nat) : List S := vs.map fun n : Nat => S.int .i64 (n : Int)

section
variable {s t : St} {x y : S} {bs cs : Bs} {i : Nat} {l m : List Ent} {e n : Nat} {vs : List S}

theorem aBounds_max {len cap k : Nat} (h : k ≤ cap) : aBounds len cap none (some (I .i64 k)) (some (I .i64 k)) = some (0, k, k) := by
  have e1 : ∀ c, k ≤ c → aBnd (I .i64 k) c = some k := fun c h => by
    have h0 : (0 : Int) ≤ (k : Int) := by omega
    have h1 : (k : Int) ≤ (c : Int) := by omega
    simp [aBnd, h]
  delta aBounds
  dsimp only
  rw [e1 _ h]
  dsimp only
  rw [e1 _ (Nat.le_refl _)]

theorem Ow_cut (h : Ow e s x n vs) (h0 : 0 < n) {j : Nat} (hj : j ≤ n) : ∃ y, aPieceSl e (Z x) none (some (I .i64 j)) (some (I .i64 j)) = some (Z y) ∧ Ow e s y j (vs.take (j * e)) ∧ own y = own x := by
  have hl := h.len
  have hm : j * e ≤ n * e := Nat.mul_le_mul_right _ hj
  rcases h.ow with ⟨rfl, h1⟩ | ⟨c, rows, rfl, h1, _⟩ | ⟨c, rows, cap, rfl, hc, h1, h2, h3⟩
  · omega
  · omega
  · have hy : Ow e s (.sl c 0 j (.known j)) j (vs.take (j * e)) := by
      refine ⟨by rw [List.length_take]; omega, .inr (.inr ⟨c, rows, _, rfl, .inr rfl, h1, by omega, ?_⟩)⟩
      rw [← h3, List.take_take, Nat.min_eq_left hm]
    refine ⟨.sl c 0 j (.known j), ?_, hy, rfl⟩
    rcases hc with rfl | rfl
    · simp only [aPieceSl, if_true, aBounds_max hj]
      simp
    · simp only [aPieceSl, aBounds_max hj]
      simp

theorem Fr_other {s0 : St} (h : Fr e s0 s x n vs) (g : Gr s0 t) (hz : s.size ≤ t.size) (hk : ∀ c, own x = some c → t.get c = s.get c) : Fr e s0 t x n vs :=
  ⟨g, h.ow.keep hk, fun c hc => ⟨(h.new c hc).1, Nat.lt_of_lt_of_le (h.new c hc).2 hz⟩⟩

theorem FE.lit' {s0 : St} {e : Ent} (h : FE s0 s x l) (hl : l.length ≤ 1000000) :
    ∃ x' t s', aNew s (nSlice 1 (aFill [.int .i64 0, .int .i64 0, .int .i64 0, .int .i64 0, .int .i64 0, .int .i64 0, .int .u32 0, .str []] [(0, 8, AE e)])) = some (Z (.sl s.size 0 1 (.known 1)), s') ∧ aAppend 8 72 (Z x) (Z (.sl s.size 0 1 (.known 1))) s' = some (Z x', t) ∧ FE s0 t x' (l ++ [e]) ∧ s.size ≤ t.size ∧
      (∀ b, b < s.size → own x ≠ some b → t.get b = s.get b) ∧ (own x' = none ∨ own x' = own x ∨ ∃ c, own x' = some c ∧ s.size ≤ c) := by
  have L := Fr.lit 8 h.gr.1 (n := 1) (vs := cells cE [e]) (by simp [cE])
  obtain ⟨x', t, e1, f, hz, k, o⟩ := (h.gr' L.gr).append' (by_ := 72) (by omega) L.rd.src (by simp [cE]) (by omega)
  refine ⟨x', t, _, rfl, e1, ?_, Nat.le_trans L.gr.2.1 hz, fun b hb ho => ?_, ?_⟩
  · unfold FE
    rw [cells_append, List.length_append]
    exact f
  · rw [k b (Nat.lt_of_lt_of_le hb L.gr.2.1) ho, L.gr.2.2 b hb]
  · rcases o with h | h | ⟨c, h, h'⟩
    · exact .inl h
    · exact .inr (.inl h)
    · exact .inr (.inr ⟨c, h, Nat.le_trans L.gr.2.1 h'⟩)

/-- Two slices that grow side by side. -/
structure Both (s0 s : St) (o y : S) (l : List Ent) (ns : List Nat) : Prop where
  out : FE s0 s o l
  there : Fr 1 s0 s y ns.length (N64 ns)
  ne : ∀ c, own o = some c → own y ≠ some c

theorem Both.lit {s0 : St} {o : S} {ns : List Nat} {e : Ent} (h : Both s0 s o y l ns) (hl : l.length ≤ 1000000) :
    ∃ x' t s', aNew s (nSlice 1 (aFill [.int .i64 0, .int .i64 0, .int .i64 0, .int .i64 0, .int .i64 0, .int .i64 0, .int .u32 0, .str []] [(0, 8, AE e)])) = some (Z (.sl s.size 0 1 (.known 1)), s') ∧ aAppend 8 72 (Z o) (Z (.sl s.size 0 1 (.known 1))) s' = some (Z x', t) ∧ Both s0 t x' y (l ++ [e]) ns := by
  obtain ⟨x', t, s', e1, e2, f, hz, hk, ho⟩ := FE.lit' (e := e) h.out hl
  refine ⟨x', t, s', e1, e2, f, Fr_other h.there f.gr hz fun c hc => hk c (h.there.new c hc).2 fun hh => h.ne c hh hc, fun c hc hy => ?_⟩
  rcases ho with h1 | h1 | ⟨c', h1, h2⟩
  · rw [h1] at hc; cases hc
  · rw [h1] at hc; exact h.ne c hc hy
  · rw [h1] at hc
    cases hc
    have := (h.there.new c hy).2
    omega

theorem Both.app {s0 : St} {o z : S} {ns ms ks : List Nat} (h : Both s0 s o y l ns) (hy : Fr 1 s0 s x ks.length (N64 ks)) (hox : own x = own y) (hz : aSrc 1 (Z z) s.get = some (ms.length, N64 ms)) (hl : (ks.length + ms.length) * 8 ≤ 140737488355328) :
    ∃ y' t, aAppend 1 8 (Z x) (Z z) s = some (Z y', t) ∧ Both s0 t o y' l (ks ++ ms) := by
  obtain ⟨y', t, e1, f, hzz, hk, ho⟩ := hy.append' (by_ := 8) (by omega) hz (by simp) hl
  refine ⟨y', t, e1, Fr_other h.out f.gr hzz fun c hc => hk c (h.out.new c hc).2 fun hh => h.ne c hc (by rw [← hox]; exact hh), ?_, fun c hc hy' => ?_⟩
  · rw [List.length_append]
    have : N64 (ks ++ ms) = N64 ks ++ N64 ms := by simp [N64]
    rw [this]
    exact f
  · rcases ho with h1 | h1 | ⟨c', h1, h2⟩
    · rw [h1] at hy'; cases hy'
    · rw [h1, hox] at hy'; exact h.ne c hc hy'
    · rw [h1] at hy'
      cases hy'
      have := (h.out.new c hc).2
      omega

theorem rem_nat (k : IntKind) (a b : Nat) (h : 0 < b) : aBin .rem (I k a) (I k b) = some (I k ((a % b : Nat))) := by
  rw [rem_int _ _ _ (by omega)]; rfl
theorem quo_nat (k : IntKind) (a b : Nat) (h : 0 < b) (hw : k.wrap ((a / b : Nat) : Int) = ((a / b : Nat) : Int)) : aBin .quo (I k a) (I k b) = some (I k ((a / b : Nat))) := by
  rw [quo_int _ _ _ (by omega)]
  have : Int.tdiv (a : Int) (b : Int) = ((a / b : Nat) : Int) := rfl
  rw [this, hw]


theorem rowK_eq (v : Int) : IntKind.u64.wrap v = ((rowK v : Nat) : Int) := (Int.toNat_of_nonneg (wrap_u64 v)).symm
theorem rowK_lt (v : Int) : rowK v < 2 ^ 64 := by
  have : IntKind.u64.wrap v < 2 ^ 64 := by
    unfold IntKind.wrap
    simp [IntKind.signed, IntKind.bits]
    omega
  rw [rowK_eq] at this
  omega

/-- What the rows' counters are at most. -/
structure RowOk (σ : RowSt) (n : Nat) : Prop where
  out : σ.out.length = n
  there : σ.there.length ≤ n
  view : σ.view ≤ n
  id : σ.id ≤ n
  at_ : σ.at_ ≤ 30 * n

theorem RowOk.step {σ : RowSt} {n : Nat} (h : RowOk σ n) (k : Nat) : RowOk (rowStep σ k) (n + 1) := by
  obtain ⟨h1, h2, h3, h4, h5⟩ := h
  unfold rowStep
  split
  · exact ⟨by simp [h1], by show σ.there.length ≤ _; omega, by show σ.view + 1 ≤ _; omega, by show σ.id ≤ _; omega, by show σ.at_ ≤ _; omega⟩
  · split
    · exact ⟨by simp [h1], by show σ.there.length ≤ _; omega, by show σ.view ≤ _; omega, by show σ.id ≤ _; omega, by show σ.at_ ≤ _; omega⟩
    · split
      · exact ⟨by simp [h1], by simp; omega, by show σ.view ≤ _; omega, by show σ.id ≤ _; omega, by show σ.at_ ≤ _; omega⟩
      · exact ⟨by simp [h1], by simp; omega, by show σ.view ≤ _; omega, by show σ.id + 1 ≤ _; omega, by show σ.at_ + 1 + k / 8 % 30 ≤ _; have := Nat.mod_lt (k / 8) (show 0 < 30 by decide); omega⟩

abbrev rowV (x o y : S) (σ : RowSt) (n : Nat) : List T := [Z x, Z o, Z y, I .i64 (σ.view : Nat), I .i64 (σ.id : Nat), I .i64 (σ.at_ : Nat), I .i64 (n : Nat)]

theorem rows_step (d : Nat) {s0 : St} {o : S} {σ : RowSt} {n : Nat} {is : List Int} (hx : Rd 1 s x is.length (I64 is)) (h : Both s0 s o y σ.out σ.there) (ok : RowOk σ n) (hn : n < is.length) (hn40 : n < 40) :
    ∃ o' y' t, f27_l1 (R d) 8192 (rowV x o y σ n) s = some (.normal (rowV x o' y' (rowStep σ (rowK is[n])) (n + 1)), t) ∧ Both s0 t o' y' (rowStep σ (rowK is[n])).out (rowStep σ (rowK is[n])).there := by
  have hll := hx.lens
  obtain ⟨p, ix, ld⟩ := hx.at1 (j := n) (i := (n : Int)) (v := .int .i64 is[n]) rfl (by simp [I64, hn])
  have hK := rowK_eq is[n]
  have hKl := rowK_lt is[n]
  generalize rowK is[n] = K at *
  generalize is[n] = v at *
  obtain ⟨ok1, ok2, ok3, ok4, ok5⟩ := ok
  obtain ⟨out, there, view, id, at_⟩ := σ
  simp only at ok1 ok2 ok3 ok4 ok5 h
  have c0 : (n : Int) < (is.length : Int) := by omega
  have c1 : (n : Int) < 40 := by omega
  have w1 : IntKind.i64.wrap ((n : Int) + 1) = ((n + 1 : Nat) : Int) := by rw [wrap_in _ (by omega) (by omega)]; omega
  have r8 : aBin .rem (I .u64 (K : Nat)) (I .u64 8) = some (I .u64 ((K % 8 : Nat))) := rem_nat .u64 K 8 (by decide)
  have q8 : aBin .quo (I .u64 (K : Nat)) (I .u64 8) = some (I .u64 ((K / 8 : Nat))) := quo_nat .u64 K 8 (by decide) (wrap64 _ (by omega))
  have e7 : decide (((K % 8 : Nat) : Int) = 7) = decide (K % 8 = 7) := decide_eq_decide.2 (by omega)
  have e6 : decide (((K % 8 : Nat) : Int) = 6) = decide (K % 8 = 6) := decide_eq_decide.2 (by omega)
  have e3 : decide (3 < ((K % 8 : Nat) : Int)) = decide (3 < K % 8) := decide_eq_decide.2 (by omega)
  generalize ((K % 8 : Nat) : Int) = C8 at *
  by_cases k7 : K % 8 = 7
  · have hs : rowStep ⟨out, there, view, id, at_⟩ K = ⟨out ++ [{ ent0 with k := 3, v := (view + 1 : Nat) }], there, view + 1, id, at_⟩ := by unfold rowStep; rw [if_pos k7]
    rw [hs]
    have w2 : IntKind.i64.wrap ((view : Int) + 1) = ((view + 1 : Nat) : Int) := by rw [wrap_in _ (by omega) (by omega)]; omega
    have ag : asAggT (aFill [.int .i64 0, .int .i64 0, .int .i64 0, .int .i64 0, .int .i64 0, .int .i64 0, .int .u32 0, .str []] [(0, 1, (I .i64 3)), (1, 1, I .i64 ((view + 1 : Nat) : Int))]) = some (AE { ent0 with k := 3, v := (view + 1 : Nat) }) := rfl
    obtain ⟨o', t, s', nw, ap, b⟩ := Both.lit (e := { ent0 with k := 3, v := (view + 1 : Nat) }) h (by omega)
    refine ⟨o', y, t, ?_, b⟩
    rw [decide_eq_true k7] at e7
    unfold f27_l1 rowV
    generalize ((view + 1 : Nat) : Int) = V1 at *
    generalize ((n + 1 : Nat) : Int) = N1 at *
    generalize ((is.length : Nat) : Int) = L at *
    generalize ((K : Nat) : Int) = KK at *
    simp [hll, c0, c1, ix, ld, hK, r8, e7, w2, ag, nw, ap, w1]
  · rw [decide_eq_false k7] at e7
    by_cases k6 : K % 8 = 6
    · have hs : rowStep ⟨out, there, view, id, at_⟩ K = ⟨out ++ [{ ent0 with k := 4, v := (view : Nat), x := sealB (K / 8 % 3) }], there, view, id, at_⟩ := by unfold rowStep; rw [if_neg k7, if_pos k6]
      rw [hs]
      rw [decide_eq_true k6] at e6
      obtain ⟨s3, hs3⟩ : ∃ s3, s3 = s.push (.cells true [.str [49], .str [57], .str [51, 51]]) := ⟨_, rfl⟩
      have nw0 : aNew s (nSlice 3 (aFill [.str [], .str [], .str []] [(0, 1, (Z (.str [49]))), (1, 1, (Z (.str [57]))), (2, 1, (Z (.str [51, 51])))])) = some (Z (.sl s.size 0 3 (.known 3)), s3) := by rw [hs3]; rfl
      have g3 : Gr s s3 := by rw [hs3]; exact Gr.push h.out.gr.1 _
      have b3 : s3.get s.size = some (.cells true [.str [49], .str [57], .str [51, 51]]) := by rw [hs3]; exact St.get_push_same _ _
      have hb3 : Both s0 s3 o y out there := ⟨h.out.gr' g3, h.there.gr' g3, h.ne⟩
      have r3 : aBin .rem (I .u64 ((K / 8 : Nat))) (I .u64 3) = some (I .u64 ((K / 8 % 3 : Nat))) := rem_nat .u64 (K / 8) 3 (by decide)
      have hj : K / 8 % 3 < 3 := Nat.mod_lt _ (by decide)
      obtain ⟨w, z, ix2, ld2, ad⟩ : ∃ w z, aIndexSl 1 (Z (.sl s.size 0 3 (.known 3))) (I .u64 ((K / 8 % 3 : Nat))) = some w ∧ aLoad1 w s3.get = some (Z (.str z)) ∧ aBin .add (Z (.str [115, 101, 97, 108, 32])) (Z (.str z)) = some (Z (.str (sealB (K / 8 % 3)))) := by
        generalize K / 8 % 3 = J at hj
        rcases (by omega : J = 0 ∨ J = 1 ∨ J = 2) with rfl | rfl | rfl
        · exact ⟨_, _, rfl, aLoad1_of b3 rfl, str_add _ _ (by decide)⟩
        · exact ⟨_, _, rfl, aLoad1_of b3 rfl, str_add _ _ (by decide)⟩
        · exact ⟨_, _, rfl, aLoad1_of b3 rfl, str_add _ _ (by decide)⟩
      have ag : asAggT (aFill [.int .i64 0, .int .i64 0, .int .i64 0, .int .i64 0, .int .i64 0, .int .i64 0, .int .u32 0, .str []] [(0, 1, (I .i64 4)), (1, 1, I .i64 ((view : Nat) : Int)), (7, 1, Z (.str (sealB (K / 8 % 3))))]) = some (AE { ent0 with k := 4, v := (view : Nat), x := sealB (K / 8 % 3) }) := rfl
      obtain ⟨o', t, s', nw, ap, b⟩ := Both.lit (e := { ent0 with k := 4, v := (view : Nat), x := sealB (K / 8 % 3) }) hb3 (by omega)
      refine ⟨o', y, t, ?_, b⟩
      unfold f27_l1 rowV
      generalize sealB (K / 8 % 3) = SB at *
      generalize ((K / 8 % 3 : Nat) : Int) = K83 at *
      generalize ((K / 8 : Nat) : Int) = K8 at *
      generalize ((K : Nat) : Int) = KK at *
      generalize ((n + 1 : Nat) : Int) = N1 at *
      generalize ((is.length : Nat) : Int) = L at *
      simp [hll, c0, c1, ix, ld, hK, r8, e7, e6, nw0, q8, r3, ix2, ld2, ad, ag, nw, ap, w1]
    · rw [decide_eq_false k6] at e6
      have tl := h.there.rd.lens
      by_cases k3 : 3 < K % 8 ∧ 0 < there.length
      · obtain ⟨k3, kt⟩ := k3
        rw [decide_eq_true k3] at e3
        have hs : rowStep ⟨out, there, view, id, at_⟩ K = ⟨out ++ [{ ent0 with k := 2, v := (view : Nat), i := (there.getD (K / 8 % there.length) 0 : Nat) }], there.take (K / 8 % there.length) ++ there.drop (K / 8 % there.length + 1), view, id, at_⟩ := by
          unfold rowStep; rw [if_neg k7, if_neg k6, if_pos ⟨k3, kt⟩]
        rw [hs]
        have hj : K / 8 % there.length < there.length := Nat.mod_lt _ kt
        have w2 : IntKind.u64.wrap ((there.length : Nat) : Int) = ((there.length : Nat) : Int) := wrap64 _ (by omega)
        have r3 : aBin .rem (I .u64 ((K / 8 : Nat))) (I .u64 (there.length : Nat)) = some (I .u64 ((K / 8 % there.length : Nat))) := rem_nat .u64 (K / 8) there.length kt
        generalize K / 8 % there.length = J at *
        have w3 : IntKind.i64.wrap ((J : Nat) : Int) = ((J : Nat) : Int) := wrapi _ (by omega)
        have w4 : IntKind.i64.wrap ((J : Int) + 1) = ((J + 1 : Nat) : Int) := by rw [wrap_in _ (by omega) (by omega)]; omega
        have g0 : decide (0 < ((there.length : Nat) : Int)) = true := decide_eq_true (by omega)
        obtain ⟨p2, ix2, ld2⟩ := h.there.rd.at1 (j := J) (i := (J : Int)) (v := .int .i64 ((there.getD J 0 : Nat) : Int)) rfl (by simp [N64, hj])
        have ag : asAggT (aFill [.int .i64 0, .int .i64 0, .int .i64 0, .int .i64 0, .int .i64 0, .int .i64 0, .int .u32 0, .str []] [(0, 1, (I .i64 2)), (1, 1, I .i64 ((view : Nat) : Int)), (2, 1, I .i64 ((there.getD J 0 : Nat) : Int))]) = some (AE { ent0 with k := 2, v := (view : Nat), i := (there.getD J 0 : Nat) }) := rfl
        obtain ⟨o', t, s', nw, ap, b⟩ := Both.lit (e := { ent0 with k := 2, v := (view : Nat), i := (there.getD J 0 : Nat) }) h (by omega)
        obtain ⟨y1, p1, ow1, oy1⟩ := Ow_cut b.there.ow kt (j := J) (by omega)
        obtain ⟨y2, p2', rd2, _⟩ := b.there.rd.onfrom (lo := J + 1) (by omega)
        have ht : N64 (there.take J) = (N64 there).take (J * 1) := by simp [N64, List.map_take]
        have hd : N64 (there.drop (J + 1)) = (N64 there).drop ((J + 1) * 1) := by simp [N64, List.map_drop]
        have lt : (there.take J).length = J := by rw [List.length_take]; omega
        have ld' : (there.drop (J + 1)).length = there.length - (J + 1) := by rw [List.length_drop]
        obtain ⟨y', t2, ap2, b2⟩ := b.app (x := y1) (z := y2) (ks := there.take J) (ms := there.drop (J + 1)) ⟨b.there.gr, by rw [lt, ht]; exact ow1, fun c hc => b.there.new c (by rw [← oy1]; exact hc)⟩ oy1 (by rw [ld', hd]; exact rd2.src) (by rw [lt, ld']; omega)
        refine ⟨o', y', t2, ?_, b2⟩
        unfold f27_l1 rowV
        generalize ((there.getD J 0 : Nat) : Int) = TJ at *
        generalize ((J + 1 : Nat) : Int) = J1 at *
        generalize ((J : Nat) : Int) = JJ at *
        generalize ((there.length : Nat) : Int) = TL at *
        generalize ((K / 8 : Nat) : Int) = K8 at *
        generalize ((K : Nat) : Int) = KK at *
        generalize ((n + 1 : Nat) : Int) = N1 at *
        generalize ((is.length : Nat) : Int) = L at *
        simp [hll, c0, c1, ix, ld, hK, r8, e7, e6, e3, tl, g0, q8, w2, r3, w3, ix2, ld2, ag, nw, ap, p1, w4, p2', ap2, w1]
      · have hs : rowStep ⟨out, there, view, id, at_⟩ K = ⟨out ++ [{ k := 1, v := (view : Nat), i := (id + 1 : Nat), t := (K / 8 % 4 : Nat), f := (at_ : Nat), o := (at_ + 1 + K / 8 % 30 : Nat), u := (K % 4294967296 : Nat), x := [] }], there ++ [id + 1], view, id + 1, at_ + 1 + K / 8 % 30⟩ := by
          unfold rowStep; rw [if_neg k7, if_neg k6, if_neg k3]
        rw [hs]
        have w2 : IntKind.i64.wrap ((id : Int) + 1) = ((id + 1 : Nat) : Int) := by rw [wrap_in _ (by omega) (by omega)]; omega
        have w3 : IntKind.i64.wrap ((at_ : Int) + 1) = ((at_ + 1 : Nat) : Int) := by rw [wrap_in _ (by omega) (by omega)]; omega
        have r3 : aBin .rem (I .u64 ((K / 8 : Nat))) (I .u64 30) = some (I .u64 ((K / 8 % 30 : Nat))) := rem_nat .u64 (K / 8) 30 (by decide)
        have r4 : aBin .rem (I .u64 ((K / 8 : Nat))) (I .u64 4) = some (I .u64 ((K / 8 % 4 : Nat))) := rem_nat .u64 (K / 8) 4 (by decide)
        have l3 : K / 8 % 30 < 30 := Nat.mod_lt _ (by decide)
        have l4 : K / 8 % 4 < 4 := Nat.mod_lt _ (by decide)
        have w4 : IntKind.i64.wrap ((K / 8 % 30 : Nat) : Int) = ((K / 8 % 30 : Nat) : Int) := wrapi _ (by omega)
        have w5 : IntKind.i64.wrap ((K / 8 % 4 : Nat) : Int) = ((K / 8 % 4 : Nat) : Int) := wrapi _ (by omega)
        have w6 : IntKind.i64.wrap (((at_ + 1 : Nat) : Int) + ((K / 8 % 30 : Nat) : Int)) = ((at_ + 1 + K / 8 % 30 : Nat) : Int) := by rw [wrap_in _ (by omega) (by omega)]; omega
        have w7 : IntKind.u32.wrap ((K : Nat) : Int) = ((K % 4294967296 : Nat) : Int) := wrap32 K
        have ag : asAggT (aFill [.int .i64 0, .int .i64 0, .int .i64 0, .int .i64 0, .int .i64 0, .int .i64 0, .int .u32 0, .str []] [(0, 1, (I .i64 1)), (1, 1, I .i64 ((view : Nat) : Int)), (2, 1, I .i64 ((id + 1 : Nat) : Int)), (3, 1, I .i64 ((K / 8 % 4 : Nat) : Int)), (4, 1, I .i64 ((at_ : Nat) : Int)), (5, 1, I .i64 ((at_ + 1 + K / 8 % 30 : Nat) : Int)), (6, 1, I .u32 ((K % 4294967296 : Nat) : Int))]) =
          some (AE { k := 1, v := (view : Nat), i := (id + 1 : Nat), t := (K / 8 % 4 : Nat), f := (at_ : Nat), o := (at_ + 1 + K / 8 % 30 : Nat), u := (K % 4294967296 : Nat), x := [] }) := rfl
        obtain ⟨o', t, s', nw, ap, b⟩ := Both.lit (e := { k := 1, v := (view : Nat), i := (id + 1 : Nat), t := (K / 8 % 4 : Nat), f := (at_ : Nat), o := (at_ + 1 + K / 8 % 30 : Nat), u := (K % 4294967296 : Nat), x := [] }) h (by omega)
        have L := Fr.lit 1 b.out.gr.1 (n := 1) (vs := N64 [id + 1]) rfl
        have nw2 : aNew t (nSlice 1 (aFill [.int .i64 0] [(0, 1, I .i64 ((id + 1 : Nat) : Int))])) = some (Z (.sl t.size 0 1 (.known 1)), t.push (.cells true (N64 [id + 1]))) := rfl
        obtain ⟨t1, ht1⟩ : ∃ t1, t1 = t.push (.cells true (N64 [id + 1])) := ⟨_, rfl⟩
        rw [← ht1] at L nw2
        have b1 : Both s0 t1 o' y (out ++ [{ k := 1, v := (view : Nat), i := (id + 1 : Nat), t := (K / 8 % 4 : Nat), f := (at_ : Nat), o := (at_ + 1 + K / 8 % 30 : Nat), u := (K % 4294967296 : Nat), x := [] }]) there := ⟨b.out.gr' L.gr, b.there.gr' L.gr, b.ne⟩
        obtain ⟨y', t2, ap2, b2⟩ := b1.app (x := y) (z := .sl t.size 0 1 (.known 1)) (ks := there) (ms := [id + 1]) b1.there rfl L.rd.src (by simp; omega)
        refine ⟨o', y', t2, ?_, b2⟩
        have g3 : (decide (3 < C8) = false) ∨ (decide (3 < C8) = true ∧ decide (0 < ((there.length : Nat) : Int)) = false) := by
          by_cases hk : 3 < K % 8
          · exact .inr ⟨by rw [e3]; exact decide_eq_true hk, decide_eq_false (by omega)⟩
          · exact .inl (by rw [e3]; exact decide_eq_false hk)
        unfold f27_l1 rowV
        generalize ((id + 1 : Nat) : Int) = ID1 at *
        generalize ((at_ + 1 + K / 8 % 30 : Nat) : Int) = AT2 at *
        generalize ((at_ + 1 : Nat) : Int) = AT1 at *
        generalize ((K / 8 % 30 : Nat) : Int) = K30 at *
        generalize ((K / 8 % 4 : Nat) : Int) = K4 at *
        generalize ((K % 4294967296 : Nat) : Int) = K32 at *
        generalize ((there.length : Nat) : Int) = TL at *
        generalize ((K / 8 : Nat) : Int) = K8 at *
        generalize ((K : Nat) : Int) = KK at *
        generalize ((n + 1 : Nat) : Int) = N1 at *
        generalize ((is.length : Nat) : Int) = L' at *
        clear e3
        rcases g3 with g3 | ⟨g3, g4⟩
        · simp [hll, c0, c1, ix, ld, hK, r8, e7, e6, g3, q8, r3, r4, w2, w3, w4, w5, w6, w7, ag, nw, ap, nw2, ap2, w1]
        · simp [hll, c0, c1, ix, ld, hK, r8, e7, e6, g3, tl, g4, q8, r3, r4, w2, w3, w4, w5, w6, w7, ag, nw, ap, nw2, ap2, w1]

theorem rowsG_succ (ks : List Nat) (k : Nat) : rowsG (ks ++ [k]) = rowStep (rowsG ks) k := by simp [rowsG]

theorem rows_run (d : Nat) (wf : s.wf) {is : List Int} (hx : Rd 1 s x is.length (I64 is)) (hox : ∀ c, own x = some c → c < s.size) : ∃ o t, R (d + 1) 27 [Z x] s = some (Z o, t) ∧ FE s t o (rowsE is) := by
  rw [f27_run]
  unfold f27
  obtain ⟨j, τ, lp, o, hj, f⟩ := loops_inv (f := f27_l1 (R d) 8192) (fun q v u => ∃ (n : Nat) (o y : S), q + n = min is.length 40 ∧ v = rowV x o y (rowsG ((is.take n).map rowK)) n ∧ Both s u o y (rowsG ((is.take n).map rowK)).out (rowsG ((is.take n).map rowK)).there ∧ RowOk (rowsG ((is.take n).map rowK)) n)
    (fun j u => ∃ o, j = .exit 0 [Z o] ∧ FE s u o (rowsE is)) (by
    rintro q v u ⟨n, o, y, hq, rfl, b, ok⟩
    by_cases hn : n < is.length ∧ n < 40
    · left
      have htk : (is.take (n + 1)).map rowK = (is.take n).map rowK ++ [rowK (is[n]'hn.1)] := by
        rw [List.take_add_one, List.getElem?_eq_getElem hn.1, Option.toList_some, List.map_append]
        rfl
      have hr : Rd 1 u x is.length (I64 is) := hx.gr hox b.out.gr
      obtain ⟨o', y', t, e, b'⟩ := rows_step d hr b ok hn.1 hn.2
      have ok' := ok.step (rowK (is[n]'hn.1))
      rw [← rowsG_succ, ← htk] at e b' ok'
      exact ⟨_, t, q - 1, e, by omega, n + 1, o', y', by omega, rfl, b', ok'⟩
    · right
      have hll := hx.lens
      have htk : is.take n = is.take 40 := by
        rcases Nat.lt_or_ge n is.length with h1 | h1
        · obtain rfl : n = 40 := by omega
          rfl
        · rw [List.take_of_length_le h1, List.take_of_length_le (by omega)]
      refine ⟨.exit 0 [Z o], u, ?_, (fun v hv => by cases hv), o, rfl, by unfold rowsE; rw [← htk]; exact b.out⟩
      unfold f27_l1 rowV
      by_cases h1 : n < is.length
      · have c0 : decide ((n : Int) < (is.length : Int)) = true := decide_eq_true (by omega)
        have c1 : decide ((n : Int) < 40) = false := decide_eq_false (by omega)
        generalize ((is.length : Nat) : Int) = L at *
        generalize ((n : Nat) : Int) = NN at *
        simp [hll, c0, c1]
      · have c0 : decide ((n : Int) < (is.length : Int)) = false := decide_eq_false (by omega)
        generalize ((is.length : Nat) : Int) = L at *
        generalize ((n : Nat) : Int) = NN at *
        simp [hll, c0, gtt]) 8192 (min is.length 40) [Z x, Z .nils, Z .nils, I .i64 0, I .i64 0, I .i64 0, I .i64 0] s
    ⟨0, .nils, .nils, by omega, rfl, ⟨Fr.nil 8 wf, Fr.nil 1 wf, fun c hc => by cases hc⟩, ⟨rfl, Nat.le_refl _, Nat.le_refl _, Nat.le_refl _, Nat.le_refl _⟩⟩ (by omega)
  subst hj
  exact ⟨o, τ, by simp [lp], f⟩
end

/-! ### Rows may be -/

theorem seal_ok : ∀ n, n < 3 → (parseP (sealB n)).2.1 = 0 := by decide +kernel

structure RowMay (σ : RowSt) (n : Nat) : Prop where
  ok : RowOk σ n
  may : σ.out.all mayE = true
  wf : ∀ e ∈ σ.out, EWf e
  there : ∀ k ∈ σ.there, 1 ≤ k ∧ k ≤ n

theorem may3 (v : Nat) (h : 0 < v) (k : v ≤ 1000) : mayE { ent0 with k := 3, v := (v : Nat) } = true := by
  unfold mayE
  rw [if_neg (by simp only; omega)]
  simp [ent0]
  omega
theorem may4 (v n : Nat) (k : v ≤ 1000) (hn : n < 3) : mayE { ent0 with k := 4, v := (v : Nat), x := sealB n } = true := by
  unfold mayE
  rw [if_neg (by simp only; omega)]
  have h1 := seal_ok n hn
  have h2 : (sealB n).length ≤ 300 := by unfold sealB; split <;> (try split) <;> simp
  simp [ent0, h1, h2]
theorem may2 (v i : Nat) (k : v ≤ 1000) (h1 : 1 ≤ i) (h2 : i ≤ 1000) : mayE { ent0 with k := 2, v := (v : Nat), i := (i : Nat) } = true := by
  unfold mayE
  rw [if_neg (by simp only; omega)]
  simp [ent0, idOk]
  omega
theorem may1 (v i t f o u : Nat) (k : v ≤ 1000) (h1 : 1 ≤ i) (h2 : i ≤ 1000) (h3 : t < 4) (h4 : f < o) (h5 : o ≤ 100000) : mayE { k := 1, v := (v : Nat), i := (i : Nat), t := (t : Nat), f := (f : Nat), o := (o : Nat), u := (u : Nat), x := [] } = true := by
  unfold mayE
  rw [if_neg (by simp only; omega)]
  simp [idOk]
  omega

theorem RowMay.step {σ : RowSt} {n : Nat} (h : RowMay σ n) (hn : n < 40) (k : Nat) : RowMay (rowStep σ k) (n + 1) := by
  have ok := h.ok.step k
  obtain ⟨⟨h1, h2, h3, h4, h5⟩, may, wf, there⟩ := h
  have all : ∀ {l : List Ent} {e : Ent}, l.all mayE = true → mayE e = true → (l ++ [e]).all mayE = true := fun a b => by simp only [List.all_append, a, List.all_cons, b, List.all_nil]; rfl
  have wfs : ∀ {l : List Ent} {e : Ent}, (∀ x ∈ l, EWf x) → EWf e → ∀ x ∈ l ++ [e], EWf x := fun a b x hx => by
    rcases List.mem_append.1 hx with h | h
    · exact a x h
    · rw [List.mem_singleton.1 h]; exact b
  have main : (rowStep σ k).out.all mayE = true ∧ (∀ e ∈ (rowStep σ k).out, EWf e) ∧ ∀ i ∈ (rowStep σ k).there, 1 ≤ i ∧ i ≤ n + 1 := by
   unfold rowStep
   split
   · exact ⟨all may (may3 _ (by omega) (by omega)), wfs wf ⟨by simp [ent0], by simp [ent0]⟩, fun x hx => by have := there x hx; omega⟩
   · split
     · exact ⟨all may (may4 _ _ (by omega) (Nat.mod_lt _ (by decide))), wfs wf ⟨by simp [ent0], by simp [ent0]⟩, fun x hx => by have := there x hx; omega⟩
     · split
       · rename_i hc
         have hj : k / 8 % σ.there.length < σ.there.length := Nat.mod_lt _ hc.2
         have hm := there _ (List.getElem_mem hj)
         refine ⟨all may (may2 _ _ (by omega) ?_ ?_), wfs wf ⟨by simp [ent0], by simp [ent0]⟩, fun x hx => ?_⟩
         · rw [List.getD_eq_getElem?_getD, List.getElem?_eq_getElem hj, Option.getD_some]; exact hm.1
         · rw [List.getD_eq_getElem?_getD, List.getElem?_eq_getElem hj, Option.getD_some]; omega
         · have : x ∈ σ.there := by
             rcases List.mem_append.1 hx with h | h
             · exact List.mem_of_mem_take h
             · exact List.mem_of_mem_drop h
           have := there x this
           omega
       · have l3 : k / 8 % 30 < 30 := Nat.mod_lt _ (by decide)
         refine ⟨all may (may1 _ _ _ _ _ _ (by omega) (by omega) (by omega) (Nat.mod_lt _ (by decide)) (by omega) (by omega)), wfs wf ⟨by simp only; omega, by simp only; omega⟩, fun x hx => ?_⟩
         rcases List.mem_append.1 hx with h | h
         · have := there x h; omega
         · rw [List.mem_singleton.1 h]; omega
  exact ⟨ok, main.1, main.2.1, main.2.2⟩

theorem rowsG_may : ∀ (ks : List Nat), ks.length ≤ 40 → RowMay (rowsG ks) ks.length := by
  suffices ∀ n (ks : List Nat), ks.length = n → n ≤ 40 → RowMay (rowsG ks) n from fun ks h => this _ ks rfl h
  intro n
  induction n with
  | zero =>
    intro ks h _
    obtain rfl := List.eq_nil_of_length_eq_zero h
    exact ⟨⟨rfl, Nat.le_refl _, Nat.le_refl _, Nat.le_refl _, Nat.le_refl _⟩, rfl, (fun _ h => by cases h), (fun _ h => by cases h)⟩
  | succ n ih =>
    intro ks h hn
    have hne : ks ≠ [] := fun e => by rw [e] at h; cases h
    rw [← List.dropLast_concat_getLast hne, rowsG_succ]
    exact (ih ks.dropLast (by rw [List.length_dropLast]; omega) (by omega)).step (by omega) _

theorem rowStep_x {σ : RowSt} (h : ∀ e ∈ σ.out, e.x.length ≤ 10) (k : Nat) : ∀ e ∈ (rowStep σ k).out, e.x.length ≤ 10 := by
  have add : ∀ {l : List Ent} {e : Ent}, (∀ x ∈ l, x.x.length ≤ 10) → e.x.length ≤ 10 → ∀ x ∈ l ++ [e], x.x.length ≤ 10 := fun a b x hx => by
    rcases List.mem_append.1 hx with h | h
    · exact a x h
    · rw [List.mem_singleton.1 h]; exact b
  unfold rowStep
  split
  · exact add h (by simp [ent0])
  · split
    · exact add h (by unfold sealB; simp only; split <;> (try split) <;> simp)
    · split
      · exact add h (by simp [ent0])
      · exact add h (by simp)

theorem rowsG_x (ks : List Nat) : ∀ e ∈ (rowsG ks).out, e.x.length ≤ 10 := by
  unfold rowsG
  suffices ∀ (ks : List Nat) σ, (∀ e ∈ σ.out, e.x.length ≤ 10) → ∀ e ∈ (ks.foldl rowStep σ).out, e.x.length ≤ 10 from this ks _ (fun e h => by cases h)
  intro ks
  induction ks with
  | nil => intro σ h; exact h
  | cons k r ih => intro σ h; exact ih _ (rowStep_x h k)

theorem framesB_len' : ∀ l : List Ent, (∀ e ∈ l, e.x.length ≤ 10) → (framesB l).length ≤ 92 * l.length
  | [], _ => by simp [framesB]
  | e :: r, h => by
    have h1 := framesB_len' r fun x hx => h x (by simp [hx])
    have h2 : e.x.length ≤ 10 := h e (by simp)
    have h3 := vput_len e.v.toNat
    have h4 := putNs_len (nums e)
    have h5 := nums_len e
    have h6 := wrapB_len (putB e)
    have h7 : (putB e).length ≤ 77 := by simp [putB]; omega
    simp [framesB]
    omega

theorem rowsE_len (vs : List Int) : (framesB (rowsE vs)).length ≤ 3680 := by
  have h1 := framesB_len' (rowsE vs) (rowsG_x _)
  have h2 : (rowsE vs).length ≤ 40 := by
    have hl : ((vs.take 40).map rowK).length ≤ 40 := by simp; omega
    have h := rowsG_may _ hl
    unfold rowsE
    rw [h.ok.out]
    exact hl
  omega

theorem rowsE_may (vs : List Int) : (rowsE vs).all mayE = true ∧ (∀ e ∈ rowsE vs, EWf e) ∧ (rowsE vs).length ≤ 40 := by
  have hl : ((vs.take 40).map rowK).length ≤ 40 := by simp; omega
  have h := rowsG_may _ hl
  exact ⟨h.may, h.wf, by unfold rowsE; rw [h.ok.out]; exact hl⟩
end Go.Proofs.YtlhbidbdmdcdeaaGreatDoor

/-
  LogTorn: what stands whole in a torn row is read. No conditions but those named in each line.
-/
namespace Go.Proofs.YtlhbidbdmdcdeaaGreatDoor
open Go Go.Abs Go.Abs.F
set_option linter.unusedVariables false

theorem torn_cut : ∀ (l : List Ent) (k : Nat), k ≤ (framesB l).length → ∃ j post, (framesB l).take k = framesB (l.take j) ++ post ∧ ((∃ hj : j < l.length, ∃ more, more ≠ [] ∧ post ++ more = wrapB (putB l[j])) ∨ (j = l.length ∧ post = []))
  | [], k, h => ⟨0, [], by simp [framesB], .inr ⟨rfl, rfl⟩⟩
  | e :: r, k, h => by
    by_cases hk : (wrapB (putB e)).length ≤ k
    · obtain ⟨j, post, h1, h2⟩ := torn_cut r (k - (wrapB (putB e)).length) (by simp [framesB] at h; omega)
      refine ⟨j + 1, post, ?_, ?_⟩
      · simp only [framesB, List.take_succ_cons]
        rw [List.take_append, List.take_of_length_le hk, h1, List.append_assoc]
      · rcases h2 with ⟨hj, m, h3, h4⟩ | ⟨h3, h4⟩
        · exact .inl ⟨by simpa using hj, m, h3, by simpa using h4⟩
        · exact .inr ⟨by simp [h3], h4⟩
    · refine ⟨0, (wrapB (putB e)).take k, ?_, .inl ⟨by simp, (wrapB (putB e)).drop k, fun h0 => ?_, by simp [List.take_append_drop]⟩⟩
      · simp only [framesB, List.take_zero, List.nil_append]
        rw [List.take_append_of_le_length (by omega)]
      · have := congrArg List.length h0
        rw [List.length_drop] at this
        simp at this
        omega

theorem wrapB_le (p : Bs) : p.length ≤ (wrapB p).length := by simp [wrapB]; omega

theorem torn_law {l : List Ent} (hm : l.all mayE = true) (hw : ∀ e ∈ l, EWf e) (hl : l.length ≤ 2000) {k : Nat} (hk : k ≤ (framesB l).length) :
    ∃ j, j ≤ l.length ∧ readP ((framesB l).take k) = (l.take j, (framesB (l.take j)).length) ∧ (framesB (l.take j)).length ≤ k ∧ (∀ hj : j < l.length, k < (framesB (l.take j)).length + (wrapB (putB l[j])).length) ∧ (j = l.length → k = (framesB l).length) := by
  obtain ⟨j, post, h1, h2⟩ := torn_cut l k hk
  have hlen : k = (framesB (l.take j)).length + post.length := by
    have := congrArg List.length h1
    rw [List.length_take, List.length_append] at this
    omega
  have hjl : j ≤ l.length := by rcases h2 with ⟨hj, _⟩ | ⟨hj, _⟩ <;> omega
  have hr := readP_frames (bs := (framesB l).take k) (l := l.take j) (post := post) (by rw [List.length_take]; omega) (all_take j hm) (fun e he => hw e (List.mem_of_mem_take he)) h1
  have hno : openB ((framesB l).take k) (framesB (l.take j)).length = none := by
    cases ho : openB ((framesB l).take k) (framesB (l.take j)).length with
    | none => rfl
    | some pe =>
      obtain ⟨p, e⟩ := pe
      exfalso
      obtain ⟨he1, he2, post', hp⟩ := openB_back ho
      rw [h1, List.drop_left] at hp
      rcases h2 with ⟨hj, more, hne, hq⟩ | ⟨_, rfl⟩
      · rw [hp] at hq
        have hme : mayE l[j] = true := by
          rw [List.all_eq_true] at hm
          exact hm _ (List.getElem_mem hj)
        have hql := mayE_len hme
        have hwl := wrapB_len (putB l[j])
        have h3 := congrArg List.length hq
        rw [List.length_append, List.length_append] at h3
        have := wrapB_le p
        have hf := wrapB_free (p := p) (q := putB l[j]) (r := post' ++ more) (r' := []) (by rw [List.append_nil, ← hq, List.append_assoc]) (by omega) (by omega)
        exact hne (List.append_eq_nil_iff.1 hf.2).2
      · have := congrArg List.length hp
        rw [List.length_append] at this
        have h4 : (wrapB p).length = 0 := by simp at this; omega
        simp [wrapB, four] at h4
  rw [readL_none hno] at hr
  refine ⟨j, hjl, hr, by omega, fun hj => ?_, fun hj => ?_⟩
  · rcases h2 with ⟨_, more, hne, hq⟩ | ⟨h, _⟩
    · rw [← hq, List.length_append]
      have : 0 < more.length := List.length_pos_iff.2 hne
      omega
    · omega
  · rcases h2 with ⟨h, _⟩ | ⟨_, hp⟩
    · omega
    · rw [hp] at hlen
      rw [hj, List.take_length] at hlen
      simpa using hlen

section
variable {s t : St} {x y : S} {bs cs : Bs} {i : Nat} {l m : List Ent}

theorem meetP_take (l : List Ent) (k : Nat) : meetP (l.take k) l = (l.take k).length := by
  induction l generalizing k with
  | nil => simp [meetP]
  | cons e r ih => cases k with
    | zero => simp [meetP]
    | succ k =>
      rw [List.take_succ_cons]
      show (if e = e then _ else _) = _
      rw [if_pos rfl, ih]
      rfl

theorem allP_may (hm : l.all mayE = true) (hl : l.length ≤ 2000) : allP l = (framesB l, 0) := by unfold allP; rw [if_pos hm, if_pos hl]

theorem RE_upto (h : RE s x l) {k : Nat} (hk : k ≤ l.length) : ∃ y, aPieceSl 8 (Z x) none (some (I .i64 k)) none = some (Z y) ∧ RE s y (l.take k) ∧ (own y = none ∨ own y = own x) := by
  obtain ⟨y, a, b, c⟩ := Rd.upto h hk
  refine ⟨y, a, ?_, c⟩
  rw [cells_take cE_len] at b
  have : (l.take k).length = k := by rw [List.length_take]; omega
  unfold RE
  rw [this]
  exact b

theorem RB_upto (h : RB s x bs) {k : Nat} (hk : k ≤ bs.length) : ∃ y, aPieceSl 1 (Z x) none (some (I .i64 k)) none = some (Z y) ∧ RB s y (bs.take k) ∧ (own y = none ∨ own y = own x) := by
  obtain ⟨y, a, b, c⟩ := Rd.upto h hk
  refine ⟨y, a, ?_, c⟩
  rw [Nat.mul_one, U_take] at b
  have : (bs.take k).length = k := by rw [List.length_take]; omega
  unfold RB
  rw [this]
  exact b

theorem own_lt {x y : S} {n : Nat} (h : own y = none ∨ own y = own x) (hx : ∀ c, own x = some c → c < n) : ∀ c, own y = some c → c < n := fun c hc => by
  rcases h with h | h
  · rw [h] at hc; cases hc
  · rw [h] at hc; exact hx c hc

/-- The remainder of a number, as the laws make it. -/
theorem mod_run (v : Int) {n : Nat} (h0 : 0 < n) (hn : n < 2 ^ 62) : ∃ k : Nat, k < n ∧ k = rowK v % n ∧ aConv .u64 (I .i64 v) = some (I .u64 (rowK v : Nat)) ∧ aConv .u64 (I .i64 (n : Nat)) = some (I .u64 (n : Nat)) ∧ aBin .rem (I .u64 (rowK v : Nat)) (I .u64 (n : Nat)) = some (I .u64 (k : Nat)) ∧ aConv .i64 (I .u64 (k : Nat)) = some (I .i64 (k : Nat)) :=
  ⟨_, Nat.mod_lt _ h0, rfl, by rw [aConv_int, rowK_eq], by rw [aConv_int, wrap64 _ (by omega)], rem_nat .u64 _ _ h0, by
    have := Nat.mod_lt (rowK v) h0
    rw [aConv_int, wrapi _ (by omega)]⟩

theorem torn_run (d : Nat) (wf : s.wf) {is : List Int} {cut : Int} (hx : Rd 1 s x is.length (I64 is)) (hox : ∀ c, own x = some c → c < s.size) : ∃ t, R (d + 12) 5 [Z x, I .i64 cut] s = some (B true, t) := by
  rw [f5_run]
  unfold f5
  obtain ⟨hm, hw, hl⟩ := rowsE_may is
  have hfl := rowsE_len is
  obtain ⟨o, s1, e1, f1⟩ := rows_run (d + 10) wf hx hox
  generalize rowsE is = l at *
  have ho1 : ∀ c, own o = some c → c < s1.size := fun c hc => (f1.new c hc).2
  obtain ⟨z, s2, e2, f2⟩ := all_run d f1.gr.wf f1.rd ho1 hw (by omega)
  rw [allP_may hm (by omega)] at e2 f2
  have hll := RB.lenB (bs := framesB l) f2.rd
  obtain ⟨k, hk, _, c1, c2, r1, c3⟩ := mod_run cut (n := (framesB l).length + 1) (by omega) (by omega)
  have w1 : IntKind.i64.wrap (((framesB l).length : Int) + 1) = (((framesB l).length + 1 : Nat) : Int) := by rw [wrap_in _ (by omega) (by omega)]; omega
  obtain ⟨y, p1, ry, oy⟩ := RB_upto (bs := framesB l) f2.rd (k := k) (by omega)
  have ho2 : ∀ c, own z = some c → c < s2.size := fun c hc => (f2.new c hc).2
  obtain ⟨u, s3, e3, f3⟩ := read_run' d f2.gr.wf ry (own_lt oy ho2) (by rw [List.length_take]; omega)
  obtain ⟨j, hj, hr, hle, hlt, heq⟩ := torn_law hm hw (by omega) (k := k) (by omega)
  rw [hr] at e3 f3
  simp only [resR] at e3
  have hlj : (l.take j).length = j := by rw [List.length_take]; omega
  have ul : aLenSl (Z u) = some (I .i64 ((l.take j).length : Nat)) := f3.rd.lens
  rw [hlj] at ul
  have g13 : Gr s1 s3 := f2.gr.trans f3.gr
  have re3 : RE s3 o l := (f1.rd : RE s1 o l).gr ho1 g13
  have ol := (f1.rd : RE s1 o l).lens
  have ho3 : ∀ c, own o = some c → c < s3.size := fun c hc => Nat.lt_of_lt_of_le (ho1 c hc) g13.2.1
  have hu3 : ∀ c, own u = some c → c < s3.size := fun c hc => (f3.new c hc).2
  obtain ⟨s4, e4, g4⟩ := front_run (d + 8) f3.gr.wf (f3.rd : RE s3 u (l.take j)) hu3 re3 ho3 (by rw [List.length_take]; omega)
  rw [meetP_take, decide_eq_true rfl] at e4
  obtain ⟨v, p2, rv, ov⟩ := RE_upto (re3.gr ho3 g4) (k := j) hj
  have ho4 : ∀ c, own o = some c → c < s4.size := fun c hc => Nat.lt_of_lt_of_le (ho3 c hc) g4.2.1
  obtain ⟨q, s5, e5, f5⟩ := all_run d g4.wf rv (own_lt ov ho4) (fun e he => hw e (List.mem_of_mem_take he)) (by omega)
  rw [allP_may (all_take j hm) (by omega)] at e5 f5
  simp only [resA] at e2 e5
  have ql := RB.lenB (bs := framesB (l.take j)) f5.rd
  have tl5 := fun st => told10_run (d + 10) st
  have n1 : ¬ (k : Int) < ((framesB (l.take j)).length : Nat) := by omega
  have n2 : ¬ ((l.length : Nat) : Int) < ((j : Nat) : Int) := by omega
  simp only [Nat.add_assoc, Nat.reduceAdd] at e1 e2 e3 e4 e5 tl5
  by_cases hjl : j < l.length
  · have hme : mayE l[j] = true := by
      rw [List.all_eq_true] at hm
      exact hm _ (List.getElem_mem hjl)
    obtain ⟨w, ix, ld⟩ := RE.atE (re3.gr ho3 (g4.trans f5.gr)) (n := ((j : Nat) : Int)) rfl (List.getElem?_eq_getElem hjl)
    obtain ⟨r, s6, e6, g6, f6⟩ := frame_run (d + 1) f5.gr.wf l[j] (hw _ (List.getElem_mem hjl))
    have hf : frameE l[j] = some (wrapB (putB l[j])) := by simp [frameE, hme]
    rw [hf] at e6
    simp only [resF] at e6
    have rl := (f6 _ hf).rd.lens
    have c5 : ((j : Nat) : Int) < ((l.length : Nat) : Int) := by omega
    have hlt' := hlt hjl
    have hwl := frameE_len hf
    have w2 : IntKind.i64.wrap (((framesB (l.take j)).length : Int) + ((wrapB (putB l[j])).length : Nat)) = (((framesB (l.take j)).length + (wrapB (putB l[j])).length : Nat) : Int) := by rw [wrap_in _ (by omega) (by omega)]; omega
    have n3 : (k : Int) < (((framesB (l.take j)).length + (wrapB (putB l[j])).length : Nat) : Int) := by omega
    simp only [Nat.add_assoc, Nat.reduceAdd] at e6
    refine ⟨s6, ?_⟩
    generalize (((framesB (l.take j)).length + (wrapB (putB l[j])).length : Nat) : Int) = FW at *
    generalize (((framesB (l.take j)).length : Nat) : Int) = FJ at *
    generalize (((wrapB (putB l[j])).length : Nat) : Int) = WJ at *
    generalize (((framesB l).length + 1 : Nat) : Int) = F1 at *
    generalize (((framesB l).length : Nat) : Int) = F0 at *
    generalize ((l.length : Nat) : Int) = LL at *
    generalize ((j : Nat) : Int) = JJ at *
    generalize ((k : Nat) : Int) = KK at *
    generalize ((rowK cut : Nat) : Int) = RK at *
    generalize R (d + 11) = r at *
    simp [e1, e2, aExtract, c1, hll, w1, c2, r1, c3, p1, e3, n1, ul, ol, n2, e4, p2, e5, ql, c5, ix, ld, e6, tl5, rl, w2, n3]
  · have hje : j = l.length := by omega
    have hke := heq hje
    have c5 : ¬ ((j : Nat) : Int) < ((l.length : Nat) : Int) := by omega
    have hfj : (framesB (l.take j)).length = (framesB l).length := by rw [hje, List.take_length]
    rw [hfj] at e3 ql n1
    refine ⟨s5, ?_⟩
    generalize (((framesB l).length + 1 : Nat) : Int) = F1 at *
    generalize (((framesB l).length : Nat) : Int) = F0 at *
    generalize ((l.length : Nat) : Int) = LL at *
    generalize ((j : Nat) : Int) = JJ at *
    generalize ((k : Nat) : Int) = KK at *
    generalize ((rowK cut : Nat) : Int) = RK at *
    generalize R (d + 11) = r at *
    simp [e1, e2, aExtract, c1, hll, w1, c2, r1, c3, p1, e3, n1, ul, ol, n2, e4, p2, e5, ql, c5, tl5]
end
end Go.Proofs.YtlhbidbdmdcdeaaGreatDoor

/-
  The document's own frames. No conditions but those named in each line.
-/
namespace Go.Proofs.YtlhbidbdmdcdeaaGreatDoor
open Go Go.Abs Go.Abs.F
set_option linter.unusedVariables false
section
variable {s t : St} {x y : S} {l m : List Ent} {i c : Nat}

theorem rframe_run (d : Nat) (wf : s.wf) (e : Ent) (hw : EWf e) (hx : e.x.length ≤ 8000) : ∃ t, R (d + 6) 21 [AE e] s = some (resS (frameE e), t) ∧ Gr s t := by
  rw [f21_run]
  unfold f21
  obtain ⟨s1, hs1⟩ : ∃ s1, s1 = s.push (.cells true (cE e)) := ⟨_, rfl⟩
  have nw1 : aNew s (nBox (AE e)) = some (Z (.ptr s.size 0), s1) := by rw [hs1]; rfl
  have g1 : Gr s s1 := by rw [hs1]; exact Gr.push wf _
  have b1 : s1.get s.size = some (.cells true (cE e)) := by rw [hs1]; exact St.get_push_same _ _
  have l8 := load8 (g := s1.get) b1
  obtain ⟨s2, e2, g2⟩ := rput_run d g1.wf e hw hx
  cases hm : mayE e with
  | false =>
    have hp : putE e = none := by unfold putE; rw [hm]; rfl
    have hf : frameE e = none := by unfold frameE; rw [hm]; rfl
    rw [hp] at e2
    rw [hf]
    refine ⟨s2, ?_, g1.trans g2⟩
    simp only [resS] at e2
    generalize R (d + 5) = r at *
    simp [nw1, l8, e2, aExtract, retT, allV]
  | true =>
    have hp : putE e = some (putB e) := by unfold putE; rw [hm]; rfl
    have hf : frameE e = some (wrapB (putB e)) := by unfold frameE; rw [hm]; rfl
    rw [hp] at e2
    rw [hf]
    simp only [resS] at e2
    have hl := mayE_len hm
    obtain ⟨s3, e3, g3⟩ := rvput_run (d + 4) g2.wf (putB e).length (by omega)
    have vl := vput_len (putB e).length
    have hll : aLenStr (Z (.str (putB e))) = some (I .i64 (((putB e).length : Nat) : Int)) := rfl
    have wl : IntKind.u64.wrap (((putB e).length : Nat) : Int) = (((putB e).length : Nat) : Int) := wrap64 _ (by omega)
    have a1 := str_add (vput (putB e).length) (putB e) (by omega)
    have e4 := rsum_run (bs := vput (putB e).length ++ putB e) (s := s3) (d + 3) (by simp; omega)
    obtain ⟨s5, e5, g5⟩ := four_run (d + 4) g3.wf (sumB 1 (vput (putB e).length ++ putB e))
    have hf4 : ∀ n, (four n).length = 4 := fun _ => rfl
    have a2 := str_add (vput (putB e).length) (four (sumB 1 (vput (putB e).length ++ putB e))) (by rw [hf4]; omega)
    have a3 := str_add (vput (putB e).length ++ four (sumB 1 (vput (putB e).length ++ putB e))) (putB e) (by simp [hf4]; omega)
    have hW : wrapB (putB e) = vput (putB e).length ++ four (sumB 1 (vput (putB e).length ++ putB e)) ++ putB e := rfl
    rw [hW]
    simp only [Nat.add_assoc, Nat.reduceAdd] at e3 e4 e5
    refine ⟨s5, ?_, ((g1.trans g2).trans g3).trans g5⟩
    generalize vput (putB e).length ++ four (sumB 1 (vput (putB e).length ++ putB e)) ++ putB e = W3 at *
    generalize vput (putB e).length ++ four (sumB 1 (vput (putB e).length ++ putB e)) = W2 at *
    generalize four (sumB 1 (vput (putB e).length ++ putB e)) = FF at *
    generalize ((sumB 1 (vput (putB e).length ++ putB e) : Nat) : Int) = SS at *
    generalize vput (putB e).length ++ putB e = W1 at *
    generalize vput (putB e).length = VP at *
    generalize (((putB e).length : Nat) : Int) = PL at *
    generalize R (d + 5) = r at *
    simp [nw1, l8, e2, aExtract, hll, wl, e3, a1, e4, e5, a2, a3, retT, allV]

abbrev resT (p : Bs × Int) : T := .tup [.s (.str p.1), .s (.int .i64 p.2)]

theorem rall_run (d : Nat) (wf : s.wf) (h : RE s x l) (hox : ∀ c, own x = some c → c < s.size) (hw : ∀ e ∈ l, EWf e) (hxx : ∀ e ∈ l, e.x.length ≤ 8000) (hl : l.length ≤ 200) : ∃ t, R (d + 7) 19 [Z x] s = some (resT (allP l), t) ∧ Gr s t := by
  rw [f19_run]
  unfold f19
  have hll := h.lens
  obtain ⟨j, τ, lp, hj, gτ⟩ := loops_inv (f := f19_l1 (R (d + 6)) 8192) (fun q v u => ∃ k : Nat, q + k = l.length ∧ v = [Z x, Z (.str (framesB (l.take k))), I .i64 (k : Nat)] ∧ Gr s u ∧ (l.take k).all mayE = true)
    (fun j u => (j = .exit 0 [Z x, Z (.str (framesB l))] ∧ l.all mayE = true ∨ j = .ret (.tup [.s (.str []), .s (.int .i64 1)]) ∧ l.all mayE = false) ∧ Gr s u) (by
    rintro q v u ⟨k, hk, rfl, g, ha⟩
    by_cases hkl : k < l.length
    · obtain ⟨p, ix, ld⟩ := RE.atE (h.gr hox g) (n := ((k : Nat) : Int)) rfl (List.getElem?_eq_getElem hkl)
      obtain ⟨u1, e1, g1⟩ := rframe_run d g.wf l[k] (hw _ (List.getElem_mem hkl)) (hxx _ (List.getElem_mem hkl))
      have hm := all_split l k l[k] (List.getElem?_eq_getElem hkl) ha
      have c0 : ((k : Nat) : Int) < ((l.length : Nat) : Int) := by omega
      have w1 : IntKind.i64.wrap ((k : Int) + 1) = ((k + 1 : Nat) : Int) := by rw [wrap_in _ (by omega) (by omega)]; omega
      cases hme : mayE l[k] with
      | true =>
        left
        have hf : frameE l[k] = some (wrapB (putB l[k])) := by simp [frameE, hme]
        rw [hf] at e1
        simp only [resS] at e1
        have hfl := frameE_len hf
        have hal := framesB_len _ ha
        rw [List.length_take] at hal
        have htk : l.take (k + 1) = l.take k ++ [l[k]] := by rw [List.take_add_one, List.getElem?_eq_getElem hkl]; rfl
        have ad := str_add (framesB (l.take k)) (wrapB (putB l[k])) (by omega)
        rw [← framesB_snoc, ← htk] at ad
        refine ⟨[Z x, Z (.str (framesB (l.take (k + 1)))), I .i64 ((k + 1 : Nat) : Int)], u1, q - 1, ?_, by omega, k + 1, by omega, rfl, g.trans g1, hm.2 hme⟩
        unfold f19_l1
        generalize framesB (l.take (k + 1)) = F1 at *
        generalize framesB (l.take k) = F0 at *
        generalize ((k + 1 : Nat) : Int) = K1 at *
        generalize ((k : Nat) : Int) = K at *
        generalize ((l.length : Nat) : Int) = L at *
        generalize R (d + 6) = r at *
        simp [hll, c0, ix, ld, e1, aExtract, ad, w1]
      | false =>
        right
        have hf : frameE l[k] = none := by simp [frameE, hme]
        rw [hf] at e1
        simp only [resS] at e1
        refine ⟨.ret (.tup [.s (.str []), .s (.int .i64 1)]), u1, ?_, (fun v hv => by cases hv), .inr ⟨rfl, hm.1 hme⟩, g.trans g1⟩
        unfold f19_l1
        generalize ((k : Nat) : Int) = K at *
        generalize ((l.length : Nat) : Int) = L at *
        generalize R (d + 6) = r at *
        simp [hll, c0, ix, ld, e1, aExtract, retT, allV]
    · right
      have hk' : k = l.length := by omega
      subst hk'
      rw [List.take_length] at ha
      refine ⟨.exit 0 [Z x, Z (.str (framesB l))], u, ?_, (fun v hv => by cases hv), .inl ⟨rfl, ha⟩, g⟩
      rw [List.take_length]
      unfold f19_l1
      simp [hll]) 8192 l.length [Z x, Z (.str []), I .i64 0] s ⟨0, rfl, rfl, Gr.refl wf, by simp⟩ (by omega)
  have c2 : ¬ (2000 : Int) < ((l.length : Nat) : Int) := by omega
  refine ⟨τ, ?_, gτ⟩
  generalize ((l.length : Nat) : Int) = L at *
  rcases hj with ⟨rfl, ha⟩ | ⟨rfl, ha⟩
  · rw [allP_may ha (by omega)]
    simp [lp, hll, c2, retT, allV]
  · have hp : allP l = ([], 1) := by unfold allP; rw [if_neg (by simp [ha])]
    rw [hp]
    simp [lp]
end
end Go.Proofs.YtlhbidbdmdcdeaaGreatDoor

/-
  The document's own Meet, Front and SameEntries. No conditions but those named in each line.
-/
namespace Go.Proofs.YtlhbidbdmdcdeaaGreatDoor
open Go Go.Abs Go.Abs.F
set_option linter.unusedVariables false
section
variable {s t : St} {x y : S} {l m : List Ent} {i c : Nat}

theorem rmeet_run (d : Nat) (wf : s.wf) (h : RE s x l) (k : RE s y m) (hl : l.length ≤ 8000) : R (d + 1) 26 [Z x, Z y] s = some (I .i64 (meetP l m : Nat), s) := by
  rw [f26_run]
  unfold f26
  have hll := h.lens
  have kll := k.lens
  have eqn := eqBE
  obtain ⟨j, τ, lp, hj, hτ⟩ := loops_inv (f := f26_l1 (R d) 8192) (fun q v u => ∃ n : Nat, q + n = l.length ∧ n ≤ m.length ∧ v = [Z x, Z y, I .i64 n] ∧ u = s ∧ ∀ j, j < n → l[j]? = m[j]?)
    (fun j u => j = .exit 0 [I .i64 (meetP l m : Nat)] ∧ u = s) (by
    rintro q v u ⟨n, hn, hnm, rfl, rfl, heq⟩
    have hd := meetP_drop l m n (by omega) hnm heq
    by_cases h1 : n < l.length
    · have c1 : ((n : Nat) : Int) < ((l.length : Nat) : Int) := by omega
      by_cases h2 : n < m.length
      · have c2 : ((n : Nat) : Int) < ((m.length : Nat) : Int) := by omega
        have hla : l[n]? = some l[n] := List.getElem?_eq_getElem h1
        have hma : m[n]? = some (m[n]'h2) := List.getElem?_eq_getElem h2
        obtain ⟨p, ix, ld⟩ := RE.atE h (n := (n : Int)) rfl hla
        obtain ⟨p', ix', ld'⟩ := RE.atE k (n := (n : Int)) rfl hma
        have hdl : l.drop n = l[n] :: l.drop (n + 1) := List.drop_eq_getElem_cons h1
        have hdm : m.drop n = (m[n]'h2) :: m.drop (n + 1) := List.drop_eq_getElem_cons h2
        by_cases he : l[n] = m[n]'h2
        · left
          have w1 : IntKind.i64.wrap ((n : Int) + 1) = ((n + 1 : Nat) : Int) := by rw [wrap_in _ (by omega) (by omega)]; omega
          refine ⟨[Z x, Z y, I .i64 ((n + 1 : Nat) : Int)], u, q - 1, ?_, by omega, n + 1, by omega, by omega, rfl, rfl, fun j hj => ?_⟩
          · have hde : decide (l[n] = m[n]'h2) = true := decide_eq_true he
            unfold f26_l1
            generalize l[n] = en at *
            generalize (m[n]'h2) = em at *
            generalize ((n + 1 : Nat) : Int) = N1 at *
            generalize ((l.length : Nat) : Int) = LL at *
            generalize ((m.length : Nat) : Int) = ML at *
            generalize (n : Int) = NN at *
            subst he
            simp [hll, kll, c1, c2, ix, ix', ld, ld', eqn, w1]
          · by_cases hjn : j = n
            · subst hjn; rw [hla, hma, he]
            · exact heq j (by omega)
        · right
          have hm0 : meetP l m = n := by
            rw [hd, hdl, hdm]
            show n + (if l[n] = m[n]'h2 then _ else 0) = n
            rw [if_neg he]; rfl
          refine ⟨.exit 0 [I .i64 (meetP l m : Nat)], u, ?_, (fun v hv => by cases hv), rfl, rfl⟩
          unfold f26_l1
          rw [hm0]
          clear hd hdl hdm hla hma
          generalize l[n] = en at *
          generalize (m[n]'h2) = em at *
          generalize ((l.length : Nat) : Int) = LL at *
          generalize ((m.length : Nat) : Int) = ML at *
          generalize (n : Int) = NN at *
          simp [hll, kll, c1, c2, ix, ix', ld, ld', eqn, he]
      · right
        have c2 : ¬ ((n : Nat) : Int) < ((m.length : Nat) : Int) := by omega
        have hm0 : meetP l m = n := by
          rw [hd, show n = m.length by omega, List.drop_length]
          cases l.drop m.length <;> simp [meetP]
        refine ⟨.exit 0 [I .i64 (meetP l m : Nat)], u, ?_, (fun v hv => by cases hv), rfl, rfl⟩
        unfold f26_l1
        rw [hm0]
        generalize ((l.length : Nat) : Int) = LL at *
        generalize ((m.length : Nat) : Int) = ML at *
        generalize (n : Int) = NN at *
        simp [hll, kll, c1, c2, gtt]
    · right
      have c1 : ¬ ((n : Nat) : Int) < ((l.length : Nat) : Int) := by omega
      have hm0 : meetP l m = n := by
        rw [hd, show n = l.length by omega, List.drop_length]
        simp [meetP]
      refine ⟨.exit 0 [I .i64 (meetP l m : Nat)], u, ?_, (fun v hv => by cases hv), rfl, rfl⟩
      unfold f26_l1
      rw [hm0]
      generalize ((l.length : Nat) : Int) = LL at *
      generalize ((m.length : Nat) : Int) = ML at *
      generalize (n : Int) = NN at *
      simp [hll, kll, c1, gtt]) 8192 l.length [Z x, Z y, I .i64 0] s ⟨0, rfl, by omega, rfl, rfl, fun j hj => by omega⟩ (by omega)
  subst hj; subst hτ
  simp [lp]

theorem rfront_run (d : Nat) (wf : s.wf) (h : RE s x l) (k : RE s y m) (hl : l.length ≤ 8000) : R (d + 2) 24 [Z x, Z y] s = some (B (decide (meetP l m = l.length)), s) := by
  rw [f24_run]
  unfold f24
  have e1 := rmeet_run d wf h k hl
  have hll := h.lens
  have hd : decide (((meetP l m : Nat) : Int) = ((l.length : Nat) : Int)) = decide (meetP l m = l.length) := decide_eq_decide.2 (by omega)
  generalize ((meetP l m : Nat) : Int) = M at *
  generalize ((l.length : Nat) : Int) = L at *
  simp only [e1, bd2_some, hll, bd_some, eql_int, hd]
end
end Go.Proofs.YtlhbidbdmdcdeaaGreatDoor

/-
  The document's own reader of bytes: a byte, a number, a text. No conditions but those named in each line.
-/
namespace Go.Proofs.YtlhbidbdmdcdeaaGreatDoor
open Go Go.Abs Go.Abs.F
set_option linter.unusedVariables false

/-- The reader: its bytes, its place, an error. -/
abbrev cC (b : Bs) (at_ : Nat) (bad : Bool) : List S := [.str b, .int .i64 (at_ : Nat), .bool bad]
def rnum (b : Bs) (at_ : Nat) (bad : Bool) : Nat × Nat × Bool := if bad then (0, at_, true) else match vget b at_ with
  | some (n, e) => (n, e, false)
  | none => (0, at_, true)

section
variable {s t : St} {x y : S} {b : Bs} {i c : Nat}

theorem rnum_run (d : Nat) (wf : s.wf) {at_ : Nat} {bad : Bool} (hc : s.get c = some (.cells true (cC b at_ bad))) (hl : b.length ≤ 100000) (ha : at_ ≤ b.length) :
    ∃ t, R (d + 2) 58 [Z (.ptr c 0)] s = some (I .u64 ((rnum b at_ bad).1 : Nat), t) ∧ t.get c = some (.cells true (cC b (rnum b at_ bad).2.1 (rnum b at_ bad).2.2)) ∧ But c s t ∧ (rnum b at_ bad).2.1 ≤ b.length := by
  rw [f58_run]
  unfold f58
  have an : aNil (Z (.ptr c 0)) = some (Z (.ptr c 0)) := rfl
  have fa : ∀ j, aFieldAddr j (Z (.ptr c 0)) = some (Z (.ptr c j)) := fun j => by simp [aFieldAddr]
  have l0 : aLoad1 (Z (.ptr c 0)) s.get = some (Z (.str b)) := aLoad1_of hc rfl
  have l1 : aLoad1 (Z (.ptr c 1)) s.get = some (I .i64 (at_ : Nat)) := aLoad1_of hc rfl
  have l2 : aLoad1 (Z (.ptr c 2)) s.get = some (B bad) := aLoad1_of hc rfl
  have hcl := wf.lt hc
  cases bad with
  | true =>
    refine ⟨s, ?_, hc, ⟨wf, Nat.le_refl _, fun _ _ _ => rfl⟩, ha⟩
    simp [an, fa, l2, rnum]
  | false =>
    have e1 := rget_run (s := s) d hl (at_ := at_) (by omega)
    have two : ∀ (p : Nat) (q : Bool), ∃ t1 t2, aStore 1 (Z (.ptr c 1)) (I .i64 (p : Nat)) s = some (tt, t1) ∧ aStore 1 (Z (.ptr c 2)) (B q) t1 = some (tt, t2) ∧ t2.get c = some (.cells true (cC b p q)) ∧ But c s t2 := fun p q => by
      have s1 := aStore1_of (σ := s) (i := c) (o := 1) (x := .int .i64 (p : Nat)) hc (by simp)
      have hc1 : (s.set c (.cells true (cC b p false))).get c = some (.cells true (cC b p false)) := St.get_set_same _ _ _
      have s2 := aStore1_of (σ := s.set c (.cells true (cC b p false))) (i := c) (o := 2) (x := .bool q) hc1 (by simp)
      refine ⟨_, _, s1, s2, St.get_set_same _ _ _, St.wf_set (St.wf_set wf hcl _) (by simpa using hcl) _, by simp, fun k hk hk' => by rw [St.get_set_ne _ _ hk', St.get_set_ne _ _ hk']⟩
    cases hv : vget b at_ with
    | none =>
      rw [hv] at e1
      simp only [vres, if_pos ha] at e1
      obtain ⟨t1, t2, s1, s2, r, bt⟩ := two at_ true
      have hr : rnum b at_ false = (0, at_, true) := by unfold rnum; rw [hv]; rfl
      rw [hr]
      refine ⟨t2, ?_, r, bt, ha⟩
      generalize R (d + 1) = rr at *
      simp [an, fa, l0, l1, l2, e1, aExtract, s1, s2]
    | some p =>
      obtain ⟨m, to⟩ := p
      rw [hv] at e1
      simp only [vres] at e1
      obtain ⟨t1, t2, s1, s2, r, bt⟩ := two to false
      have hr : rnum b at_ false = (m, to, false) := by unfold rnum; rw [hv]; rfl
      rw [hr]
      refine ⟨t2, ?_, r, bt, (vget_lt hv).2⟩
      generalize R (d + 1) = rr at *
      simp [an, fa, l0, l1, l2, e1, aExtract, s1, s2]

/-- The first byte. -/
theorem rbyte_run (d : Nat) (wf : s.wf) (hc : s.get c = some (.cells true (cC b 0 false))) : ∃ t, R (d + 1) 56 [Z (.ptr c 0)] s = some (I .u8 ((b.headD 0).toNat : Nat), t) ∧ t.get c = some (.cells true (cC b (if b = [] then 0 else 1) (decide (b = [])))) ∧ But c s t := by
  rw [f56_run]
  unfold f56
  have an : aNil (Z (.ptr c 0)) = some (Z (.ptr c 0)) := rfl
  have fa : ∀ j, aFieldAddr j (Z (.ptr c 0)) = some (Z (.ptr c j)) := fun j => by simp [aFieldAddr]
  have l0 : aLoad1 (Z (.ptr c 0)) s.get = some (Z (.str b)) := aLoad1_of hc rfl
  have l1 : aLoad1 (Z (.ptr c 1)) s.get = some (I .i64 0) := aLoad1_of hc rfl
  have l2 : aLoad1 (Z (.ptr c 2)) s.get = some (B false) := aLoad1_of hc rfl
  have hcl := wf.lt hc
  have hl : aLenStr (Z (.str b)) = some (I .i64 ((b.length : Nat) : Int)) := rfl
  have one : ∀ {j : Nat} {v : S}, j < 3 → ∃ t, aStore 1 (Z (.ptr c j)) (Z v) s = some (tt, t) ∧ t.get c = some (.cells true ((cC b 0 false).set j v)) ∧ But c s t := fun {j v} hj => by
    have s1 := aStore1_of (σ := s) (i := c) (o := j) (x := v) hc (by simpa using hj)
    exact ⟨_, s1, St.get_set_same _ _ _, St.wf_set wf hcl _, by simp, fun k hk hk' => St.get_set_ne _ _ hk'⟩
  cases hb : b with
  | nil =>
    rw [hb] at hl l0
    obtain ⟨t1, s1, r1, bt⟩ := one (j := 2) (v := .bool true) (by omega)
    rw [hb] at r1
    refine ⟨t1, ?_, r1, bt⟩
    have hl' : aLenStr (Z (.str [])) = some (I .i64 0) := rfl
    simp [an, fa, l0, l1, l2, hl', s1]
  | cons a r =>
    rw [hb] at hl l0
    obtain ⟨t1, s1, r1, bt⟩ := one (j := 1) (v := .int .i64 1) (by omega)
    rw [hb] at r1
    have c1 : ¬ (((a :: r).length : Nat) : Int) ≤ 0 := by simp
    have w1 : IntKind.i64.wrap 1 = 1 := rfl
    have w0 : IntKind.i64.wrap 0 = 0 := rfl
    have r1' : t1.get c = some (.cells true (cC (a :: r) 1 false)) := r1
    have m0 : aLoad1 (Z (.ptr c 0)) t1.get = some (Z (.str (a :: r))) := aLoad1_of r1' rfl
    have m1 : aLoad1 (Z (.ptr c 1)) t1.get = some (I .i64 1) := aLoad1_of r1' rfl
    have at0 : aAtStr (Z (.str (a :: r))) (I .i64 0) = some (I .u8 a.toNat) := at_str (j := 0) rfl rfl
    refine ⟨t1, ?_, by simpa using r1', bt⟩
    rw [show ((a :: r).headD 0) = a from rfl]
    generalize (((a :: r).length : Nat) : Int) = L at *
    generalize a :: r = br at *
    simp [an, fa, l0, l1, l2, hl, c1, w1, s1, m0, m1, w0, at0]

def rtext (b : Bs) (n at_ : Nat) (bad : Bool) : Bs × Nat × Bool := if bad = true ∨ b.length - at_ < n then ([], at_, true) else ((b.drop at_).take n, at_ + n, false)

/-- So many bytes. -/
theorem rtext_run (d : Nat) (wf : s.wf) {n at_ : Nat} {bad : Bool} (hc : s.get c = some (.cells true (cC b at_ bad))) (hl : b.length ≤ 100000) (ha : at_ ≤ b.length) :
    ∃ t, R (d + 1) 59 [Z (.ptr c 0), I .u64 (n : Nat)] s = some (Z (.str (rtext b n at_ bad).1), t) ∧ t.get c = some (.cells true (cC b (rtext b n at_ bad).2.1 (rtext b n at_ bad).2.2)) ∧ But c s t := by
  rw [f59_run]
  unfold f59
  have an : aNil (Z (.ptr c 0)) = some (Z (.ptr c 0)) := rfl
  have fa : ∀ j, aFieldAddr j (Z (.ptr c 0)) = some (Z (.ptr c j)) := fun j => by simp [aFieldAddr]
  have l0 : aLoad1 (Z (.ptr c 0)) s.get = some (Z (.str b)) := aLoad1_of hc rfl
  have l1 : aLoad1 (Z (.ptr c 1)) s.get = some (I .i64 (at_ : Nat)) := aLoad1_of hc rfl
  have l2 : aLoad1 (Z (.ptr c 2)) s.get = some (B bad) := aLoad1_of hc rfl
  have hcl := wf.lt hc
  have hl' : aLenStr (Z (.str b)) = some (I .i64 ((b.length : Nat) : Int)) := rfl
  have one : ∀ {j : Nat} {v : S}, j < 3 → ∃ t, aStore 1 (Z (.ptr c j)) (Z v) s = some (tt, t) ∧ t.get c = some (.cells true ((cC b at_ bad).set j v)) ∧ But c s t := fun {j v} hj => by
    have s1 := aStore1_of (σ := s) (i := c) (o := j) (x := v) hc (by simpa using hj)
    exact ⟨_, s1, St.get_set_same _ _ _, St.wf_set wf hcl _, by simp, fun k hk hk' => St.get_set_ne _ _ hk'⟩
  have w1 : IntKind.i64.wrap (((b.length : Nat) : Int) - ((at_ : Nat) : Int)) = ((b.length - at_ : Nat) : Int) := by rw [wrap_in _ (by omega) (by omega)]; omega
  have w2 : IntKind.u64.wrap ((b.length - at_ : Nat) : Int) = ((b.length - at_ : Nat) : Int) := wrap64 _ (by omega)
  by_cases h : bad = true ∨ b.length - at_ < n
  · have hr : rtext b n at_ bad = ([], at_, true) := by unfold rtext; rw [if_pos h]
    rw [hr]
    obtain ⟨t1, s1, r1, bt⟩ := one (j := 2) (v := .bool true) (by omega)
    refine ⟨t1, ?_, r1, bt⟩
    cases bad with
    | true => simp [an, fa, l2, s1, gtt]
    | false =>
      have hh : b.length - at_ < n := h.resolve_left (by decide)
      have c1 : ((b.length - at_ : Nat) : Int) < ((n : Nat) : Int) := by omega
      generalize ((b.length - at_ : Nat) : Int) = D at *
      generalize ((b.length : Nat) : Int) = L at *
      generalize ((at_ : Nat) : Int) = A at *
      generalize ((n : Nat) : Int) = NN at *
      simp [an, fa, l0, l1, l2, hl', w1, w2, c1, s1]
  · have hr : rtext b n at_ bad = ((b.drop at_).take n, at_ + n, false) := by unfold rtext; rw [if_neg h]
    have hb : bad = false := by cases bad with
      | true => exact absurd (.inl rfl) h
      | false => rfl
    subst hb
    have hh : ¬ b.length - at_ < n := fun e => h (.inr e)
    rw [hr]
    obtain ⟨t1, s1, r1, bt⟩ := one (j := 1) (v := .int .i64 ((at_ + n : Nat) : Int)) (by omega)
    have r1' : t1.get c = some (.cells true (cC b (at_ + n) false)) := r1
    have m0 : aLoad1 (Z (.ptr c 0)) t1.get = some (Z (.str b)) := aLoad1_of r1' rfl
    have m1 : aLoad1 (Z (.ptr c 1)) t1.get = some (I .i64 ((at_ + n : Nat) : Int)) := aLoad1_of r1' rfl
    have c1 : ¬ ((b.length - at_ : Nat) : Int) < ((n : Nat) : Int) := by omega
    have w3 : IntKind.i64.wrap ((n : Nat) : Int) = ((n : Nat) : Int) := wrapi _ (by omega)
    have w4 : IntKind.i64.wrap (((at_ : Nat) : Int) + ((n : Nat) : Int)) = ((at_ + n : Nat) : Int) := by rw [wrap_in _ (by omega) (by omega)]; omega
    have w5 : IntKind.i64.wrap (((at_ + n : Nat) : Int) - ((n : Nat) : Int)) = ((at_ : Nat) : Int) := by rw [wrap_in _ (by omega) (by omega)]; omega
    have pc := aPieceStr_lh (l := b) (lo := at_) (hi := at_ + n) rfl rfl (by omega) (by omega)
    rw [Nat.add_sub_cancel_left] at pc
    refine ⟨t1, ?_, r1', bt⟩
    generalize ((b.length - at_ : Nat) : Int) = D at *
    generalize ((at_ + n : Nat) : Int) = AN at *
    generalize ((b.length : Nat) : Int) = L at *
    generalize ((at_ : Nat) : Int) = A at *
    generalize ((n : Nat) : Int) = NN at *
    simp [an, fa, l0, l1, l2, hl', w1, w2, c1, w3, w4, s1, m0, m1, w5, pc]

theorem small_run (d : Nat) (n most : Nat) (hm : most < 2 ^ 62) : R (d + 1) 57 [I .u64 (n : Nat), I .u64 (most : Nat)] s = some (I .i64 ((if most < n then most + 1 else n : Nat) : Int), s) := by
  rw [f57_run]
  unfold f57
  by_cases h : most < n
  · have c1 : ((most : Nat) : Int) < ((n : Nat) : Int) := by omega
    have w1 : IntKind.i64.wrap ((most : Nat) : Int) = ((most : Nat) : Int) := wrapi _ (by omega)
    have w2 : IntKind.i64.wrap (((most : Nat) : Int) + 1) = ((most + 1 : Nat) : Int) := by rw [wrap_in _ (by omega) (by omega)]; omega
    rw [if_pos h]
    generalize ((most + 1 : Nat) : Int) = M1 at *
    generalize ((most : Nat) : Int) = M at *
    generalize ((n : Nat) : Int) = NN at *
    simp [c1, w1, w2]
  · have c1 : ¬ ((most : Nat) : Int) < ((n : Nat) : Int) := by omega
    have w1 : IntKind.i64.wrap ((n : Nat) : Int) = ((n : Nat) : Int) := wrapi _ (by omega)
    rw [if_neg h]
    generalize ((most : Nat) : Int) = M at *
    generalize ((n : Nat) : Int) = NN at *
    simp [c1, w1]
end
end Go.Proofs.YtlhbidbdmdcdeaaGreatDoor

/-
  The document's own reader of entries. No conditions but those named in each line.
-/
namespace Go.Proofs.YtlhbidbdmdcdeaaGreatDoor
open Go Go.Abs Go.Abs.F
set_option linter.unusedVariables false

def sm (n most : Nat) : Nat := if most < n then most + 1 else n
/-- A number read as far as a bound, with the place and the error behind it. -/
def rnx (b : Bs) (most at_ : Nat) (bad : Bool) : Nat × Nat × Bool := (sm (rnum b at_ bad).1 most, (rnum b at_ bad).2.1, (rnum b at_ bad).2.2)
def rgetF (b : Bs) : Ent × Bool :=
  let p := rnx b 1073741824 (if b = [] then 0 else 1) (decide (b = []))
  let e0 : Ent := { ent0 with k := (b.headD 0).toNat, v := (p.1 : Nat) }
  if (b.headD 0).toNat = 1 then
    let i := rnx b 1073741824 p.2.1 p.2.2
    let t := rnx b 4 i.2.1 i.2.2
    let f := rnx b 1099511627776 t.2.1 t.2.2
    let o := rnx b 1099511627776 f.2.1 f.2.2
    let u := rnum b o.2.1 o.2.2
    ({ e0 with i := (i.1 : Nat), t := (t.1 : Nat), f := (f.1 : Nat), o := (o.1 : Nat), u := (u.1 % 4294967296 : Nat) }, u.2.2)
  else if (b.headD 0).toNat = 2 then
    let i := rnx b 1073741824 p.2.1 p.2.2
    ({ e0 with i := (i.1 : Nat) }, i.2.2)
  else if (b.headD 0).toNat = 4 then
    let m := rnum b p.2.1 p.2.2
    ({ e0 with x := (rtext b m.1 m.2.1 m.2.2).1 }, (rtext b m.1 m.2.1 m.2.2).2.2)
  else (e0, p.2.2)

theorem rnx_put {bs pre post : Bs} {n at_ most : Nat} (hb : bs = pre ++ (vput n ++ post)) (ha : at_ = pre.length) (hn : n ≤ most) (hm : most < 2 ^ 64) : rnx bs most at_ false = (n, at_ + (vput n).length, false) := by
  have : rnum bs at_ false = (n, at_ + (vput n).length, false) := by
    unfold rnum
    rw [vget_vput hb ha (by omega)]
    rfl
  unfold rnx
  rw [this]
  simp only [sm, if_neg (show ¬ most < n by omega)]

theorem rnum_put {bs pre post : Bs} {n at_ : Nat} (hb : bs = pre ++ (vput n ++ post)) (ha : at_ = pre.length) (hn : n < 2 ^ 64) : rnum bs at_ false = (n, at_ + (vput n).length, false) := by
  unfold rnum
  rw [vget_vput hb ha hn]
  rfl

/-- What is put is got. -/
theorem rgetF_putB {e : Ent} (h : mayE e = true) (hw : EWf e) : rgetF (putB e) = (e, false) := by
  obtain ⟨v0, v1, k0, k1, h1, h2, h3, h4⟩ := mayE_range h
  obtain ⟨w0, w1⟩ := hw
  have hkb : (UInt8.ofNat e.k.toNat).toNat = e.k.toNat := by rw [byte_nat]; omega
  have hne : putB e ≠ [] := by simp [putB]
  have hhd : ((putB e).headD 0).toNat = e.k.toNat := by rw [← hkb]; rfl
  have hc1 : putB e = [UInt8.ofNat e.k.toNat] ++ (vput e.v.toNat ++ (putNs (nums e) ++ e.x)) := by simp [putB]
  have n1 := rnx_put (most := 1073741824) hc1 rfl (by omega) (by omega)
  have hv : ((e.v.toNat : Nat) : Int) = e.v := Int.toNat_of_nonneg v0
  unfold rgetF
  rw [if_neg hne, decide_eq_false hne]
  rcases (by omega : e.k = 1 ∨ e.k = 2 ∨ e.k = 3 ∨ e.k = 4) with hk | hk | hk | hk
  · obtain ⟨hx, i0, i1, t0, t1, f0, f1, o1⟩ := h1 hk
    have hk' : ((putB e).headD 0).toNat = 1 := by rw [hhd, hk]; rfl
    have hn : nums e = [e.i.toNat, e.t.toNat, e.f.toNat, e.o.toNat, e.u.toNat] := by simp [nums, hk]
    have c2 : putB e = ([UInt8.ofNat e.k.toNat] ++ vput e.v.toNat) ++ (vput e.i.toNat ++ (vput e.t.toNat ++ vput e.f.toNat ++ vput e.o.toNat ++ vput e.u.toNat)) := by simp [putB, hn, putNs, hx]
    have c3 : putB e = ([UInt8.ofNat e.k.toNat] ++ vput e.v.toNat ++ vput e.i.toNat) ++ (vput e.t.toNat ++ (vput e.f.toNat ++ vput e.o.toNat ++ vput e.u.toNat)) := by simp [putB, hn, putNs, hx]
    have c4 : putB e = ([UInt8.ofNat e.k.toNat] ++ vput e.v.toNat ++ vput e.i.toNat ++ vput e.t.toNat) ++ (vput e.f.toNat ++ (vput e.o.toNat ++ vput e.u.toNat)) := by simp [putB, hn, putNs, hx]
    have c5 : putB e = ([UInt8.ofNat e.k.toNat] ++ vput e.v.toNat ++ vput e.i.toNat ++ vput e.t.toNat ++ vput e.f.toNat) ++ (vput e.o.toNat ++ vput e.u.toNat) := by simp [putB, hn, putNs, hx]
    have c6 : putB e = ([UInt8.ofNat e.k.toNat] ++ vput e.v.toNat ++ vput e.i.toNat ++ vput e.t.toNat ++ vput e.f.toNat ++ vput e.o.toNat) ++ (vput e.u.toNat ++ []) := by simp [putB, hn, putNs, hx]
    have n2 := rnx_put (most := 1073741824) c2 rfl (by omega) (by omega)
    have n3 := rnx_put (most := 4) c3 rfl (by omega) (by omega)
    have n4 := rnx_put (most := 1099511627776) c4 rfl (by omega) (by omega)
    have n5 := rnx_put (most := 1099511627776) c5 rfl (by omega) (by omega)
    have n6 := rnum_put c6 rfl (by omega)
    simp only [List.length_append, List.length_cons, List.length_nil, Nat.zero_add] at n1 n2 n3 n4 n5 n6
    simp only [hk', n1, n2, n3, n4, n5, n6, if_true]
    rw [Nat.mod_eq_of_lt (show e.u.toNat < 4294967296 by omega)]
    simp only [hv, Int.toNat_of_nonneg (show 0 ≤ e.i by omega), Int.toNat_of_nonneg t0, Int.toNat_of_nonneg f0, Int.toNat_of_nonneg (show 0 ≤ e.o by omega), Int.toNat_of_nonneg w0]
    obtain ⟨a1, a2, a3, a4, a5, a6, a7, a8⟩ := e
    simp only at hk hx
    subst hk hx
    rfl
  · have hk' : ((putB e).headD 0).toNat = 2 := by rw [hhd, hk]; rfl
    obtain ⟨q0, q1, q2⟩ := h2 hk
    have hn : nums e = [e.i.toNat] := by simp [nums, hk]
    have c2 : putB e = ([UInt8.ofNat e.k.toNat] ++ vput e.v.toNat) ++ (vput e.i.toNat ++ e.x) := by simp [putB, hn, putNs]
    have n2 := rnx_put (most := 1073741824) c2 rfl (by omega) (by omega)
    simp only [List.length_append, List.length_cons, List.length_nil, Nat.zero_add] at n1 n2
    simp only [hk', n1, n2, if_true, if_neg (show ¬ (2 : Nat) = 1 by decide)]
    rw [hv, Int.toNat_of_nonneg (show 0 ≤ e.i by omega)]
    obtain ⟨a1, a2, a3, a4, a5, a6, a7, a8⟩ := e
    simp only at hk
    subst hk
    obtain rfl : a4 = 0 := congrArg Ent.t q2
    obtain rfl : a5 = 0 := congrArg Ent.f q2
    obtain rfl : a6 = 0 := congrArg Ent.o q2
    obtain rfl : a7 = 0 := congrArg Ent.u q2
    obtain rfl : a8 = [] := congrArg Ent.x q2
    rfl
  · have hk' : ((putB e).headD 0).toNat = 3 := by rw [hhd, hk]; rfl
    simp only [List.length_cons, List.length_nil, Nat.zero_add] at n1
    simp only [hk', n1, if_neg (show ¬ (3 : Nat) = 1 by decide), if_neg (show ¬ (3 : Nat) = 2 by decide), if_neg (show ¬ (3 : Nat) = 4 by decide)]
    rw [hv]
    have q2 := (h3 hk).2
    obtain ⟨a1, a2, a3, a4, a5, a6, a7, a8⟩ := e
    simp only at hk
    subst hk
    obtain rfl : a3 = 0 := congrArg Ent.i q2
    obtain rfl : a4 = 0 := congrArg Ent.t q2
    obtain rfl : a5 = 0 := congrArg Ent.f q2
    obtain rfl : a6 = 0 := congrArg Ent.o q2
    obtain rfl : a7 = 0 := congrArg Ent.u q2
    obtain rfl : a8 = [] := congrArg Ent.x q2
    rfl
  · have hk' : ((putB e).headD 0).toNat = 4 := by rw [hhd, hk]; rfl
    obtain ⟨x0, q2, _⟩ := h4 hk
    have hn : nums e = [e.x.length] := by simp [nums, hk]
    have c2 : putB e = ([UInt8.ofNat e.k.toNat] ++ vput e.v.toNat) ++ (vput e.x.length ++ e.x) := by simp [putB, hn, putNs]
    have n2 := rnum_put c2 rfl (by omega)
    have hl : (putB e).length = 1 + (vput e.v.toNat).length + (vput e.x.length).length + e.x.length := by rw [c2]; simp; omega
    have hd : (putB e).drop (1 + (vput e.v.toNat).length + (vput e.x.length).length) = e.x := by
      rw [c2, ← List.append_assoc, List.drop_left']
      simp
      omega
    simp only [List.length_append, List.length_cons, List.length_nil, Nat.zero_add] at n1 n2
    have hr : rtext (putB e) e.x.length (1 + (vput e.v.toNat).length + (vput e.x.length).length) false = (e.x, 1 + (vput e.v.toNat).length + (vput e.x.length).length + e.x.length, false) := by
      unfold rtext
      rw [if_neg (by rw [hl]; simp), hd, List.take_length]
    simp only [hk', n1, n2, hr, if_neg (show ¬ (4 : Nat) = 1 by decide), if_neg (show ¬ (4 : Nat) = 2 by decide), if_true]
    rw [hv]
    obtain ⟨a1, a2, a3, a4, a5, a6, a7, a8⟩ := e
    simp only at hk
    subst hk
    obtain rfl : a3 = 0 := congrArg Ent.i q2
    obtain rfl : a4 = 0 := congrArg Ent.t q2
    obtain rfl : a5 = 0 := congrArg Ent.f q2
    obtain rfl : a6 = 0 := congrArg Ent.o q2
    obtain rfl : a7 = 0 := congrArg Ent.u q2
    rfl

/-- Both readers of entries are one. -/
theorem rget_eq (b : Bs) (hw : EWf (rgetF b).1) (hwf : ∀ e, getE b = some e → EWf e) : getE b = if (rgetF b).2 = false ∧ putE (rgetF b).1 = some b then some (rgetF b).1 else none := by
  by_cases h : (rgetF b).2 = false ∧ putE (rgetF b).1 = some b
  · rw [if_pos h]
    have h2 := h.2
    unfold putE at h2
    split at h2
    · rename_i hm
      have hb : putB (rgetF b).1 = b := by simpa using h2
      have := getE_putB hm hw
      rwa [hb] at this
    · cases h2
  · rw [if_neg h]
    cases hg : getE b with
    | none => rfl
    | some e =>
      obtain ⟨hm, hb⟩ := getE_back hg
      have hr := rgetF_putB hm (hwf e hg)
      rw [← hb] at hr
      exfalso
      apply h
      rw [hr]
      refine ⟨rfl, ?_⟩
      unfold putE
      rw [if_pos hm, ← hb]
end Go.Proofs.YtlhbidbdmdcdeaaGreatDoor

/-
  The document's own reader of entries, as it runs. No conditions but those named in each line.
-/
namespace Go.Proofs.YtlhbidbdmdcdeaaGreatDoor
open Go Go.Abs Go.Abs.F
set_option linter.unusedVariables false

theorem z0 : (0 : Int) ≤ 0 := by decide
theorem z1 : (0 : Int) < 4294967296 := by decide

theorem getE_wf {b : Bs} {e : Ent} (h : getE b = some e) : EWf e := by
  unfold getE at h
  split at h
  · cases h
  · rename_i c r
    split at h
    · cases h
    · rename_i e' bad hf
      split at h
      · cases h
        unfold getFields at hf
        simp only at hf
        split at hf
        · cases hf
          refine ⟨Int.natCast_nonneg _, ?_⟩
          have h4 : ∀ at_ bad, (((nxt (c :: r) 4294967295 at_ bad).1 : Nat) : Int) < 4294967296 := fun at_ bad => by
            have := @nxt_le (c :: r) 4294967295 at_ bad
            omega
          exact h4 _ _
        · split at hf
          · cases hf; exact ⟨z0, z1⟩
          · split at hf
            · split at hf
              · cases hf
              · cases hf; exact ⟨z0, z1⟩
            · cases hf; exact ⟨z0, z1⟩
      · cases h

theorem rgetF_wf (b : Bs) : EWf (rgetF b).1 := by
  unfold rgetF
  simp only
  split
  · refine ⟨Int.natCast_nonneg _, ?_⟩
    have h4 : ∀ n : Nat, ((n % 4294967296 : Nat) : Int) < 4294967296 := fun n => by omega
    exact h4 _
  · split
    · exact ⟨z0, z1⟩
    · split
      · exact ⟨z0, z1⟩
      · exact ⟨z0, z1⟩

theorem rget_eq' (b : Bs) : getE b = if (rgetF b).2 = false ∧ putE (rgetF b).1 = some b then some (rgetF b).1 else none := rget_eq b (rgetF_wf b) fun e h => getE_wf h
end Go.Proofs.YtlhbidbdmdcdeaaGreatDoor

/-
  The document's own reader of entries, whole. No conditions but those named in each line.
-/
namespace Go.Proofs.YtlhbidbdmdcdeaaGreatDoor
open Go Go.Abs Go.Abs.F
set_option linter.unusedVariables false

/-- A reader and an entry that is filled. -/
structure Rdr (s0 u : St) (c e : Nat) (b : Bs) (at_ : Nat) (bad : Bool) (w : Ent) : Prop where
  wf : u.wf
  sz : s0.size ≤ u.size
  old : ∀ k, k < s0.size → u.get k = s0.get k
  c0 : s0.size ≤ c
  e0 : s0.size ≤ e
  ne : e ≠ c
  rd : u.get c = some (.cells true (cC b at_ bad))
  en : u.get e = some (.cells true (cE w))
  le : at_ ≤ b.length

section
variable {s0 u : St} {c e at_ : Nat} {b : Bs} {bad : Bool} {w : Ent}

theorem Rdr.num (d : Nat) (h : Rdr s0 u c e b at_ bad w) (hl : b.length ≤ 100000) : ∃ u', R (d + 2) 58 [Z (.ptr c 0)] u = some (I .u64 ((rnum b at_ bad).1 : Nat), u') ∧ Rdr s0 u' c e b (rnum b at_ bad).2.1 (rnum b at_ bad).2.2 w := by
  obtain ⟨t, e1, r, bt, le⟩ := rnum_run d h.wf h.rd hl h.le
  have := h.c0
  exact ⟨t, e1, bt.1, Nat.le_trans h.sz bt.2.1, fun k hk => by rw [bt.2.2 k (Nat.lt_of_lt_of_le hk h.sz) (by omega)]; exact h.old k hk, h.c0, h.e0, h.ne, r, by rw [bt.2.2 e (h.wf.lt h.en) h.ne]; exact h.en, le⟩

theorem Rdr.set (h : Rdr s0 u c e b at_ bad w) {j : Nat} {v : S} {w' : Ent} (hj : j < 8) (hw : (cE w).set j v = cE w') : ∃ u', aStore 1 (Z (.ptr e j)) (Z v) u = some (tt, u') ∧ Rdr s0 u' c e b at_ bad w' := by
  have s1 := aStore1_of (σ := u) (i := e) (o := j) (x := v) h.en (by rw [cE_len]; exact hj)
  have he0 := h.e0
  refine ⟨_, s1, St.wf_set h.wf (h.wf.lt h.en) _, by simpa using h.sz, fun k hk => by rw [St.get_set_ne _ _ (by omega)]; exact h.old k hk, h.c0, h.e0, h.ne, by rw [St.get_set_ne _ _ (fun x => h.ne x.symm)]; exact h.rd, ?_, h.le⟩
  rw [← hw]
  exact St.get_set_same _ _ _

theorem Rdr.text (d : Nat) (h : Rdr s0 u c e b at_ bad w) (hl : b.length ≤ 100000) {n : Nat} : ∃ u', R (d + 1) 59 [Z (.ptr c 0), I .u64 (n : Nat)] u = some (Z (.str (rtext b n at_ bad).1), u') ∧ Rdr s0 u' c e b (rtext b n at_ bad).2.1 (rtext b n at_ bad).2.2 w := by
  obtain ⟨t, e1, r, bt⟩ := rtext_run (n := n) d h.wf h.rd hl h.le
  have := h.c0
  have hle := h.le
  refine ⟨t, e1, bt.1, Nat.le_trans h.sz bt.2.1, fun k hk => by rw [bt.2.2 k (Nat.lt_of_lt_of_le hk h.sz) (by omega)]; exact h.old k hk, h.c0, h.e0, h.ne, r, by rw [bt.2.2 e (h.wf.lt h.en) h.ne]; exact h.en, ?_⟩
  unfold rtext
  split
  · exact hle
  · rename_i hh
    have : ¬ b.length - at_ < n := fun x => hh (.inr x)
    show at_ + n ≤ b.length
    omega

/-- A number as far as a bound. -/
theorem Rdr.nx (d : Nat) (h : Rdr s0 u c e b at_ bad w) (hl : b.length ≤ 100000) (most : Nat) (hm : most < 2 ^ 62) : ∃ u', (∃ n : Nat, R (d + 2) 58 [Z (.ptr c 0)] u = some (I .u64 (n : Nat), u') ∧ R (d + 2) 57 [I .u64 (n : Nat), I .u64 (most : Nat)] u' = some (I .i64 ((rnx b most at_ bad).1 : Nat), u')) ∧
    Rdr s0 u' c e b (rnx b most at_ bad).2.1 (rnx b most at_ bad).2.2 w := by
  obtain ⟨u', e1, h'⟩ := h.num d hl
  exact ⟨u', ⟨_, e1, small_run (d + 1) _ most hm⟩, h'⟩
end
end Go.Proofs.YtlhbidbdmdcdeaaGreatDoor

/-
  The document's own reader of entries, run. No conditions but those named in each line.
-/
namespace Go.Proofs.YtlhbidbdmdcdeaaGreatDoor
open Go Go.Abs Go.Abs.F
set_option linter.unusedVariables false
section
variable {s t : St} {b : Bs}

/-- What GetEntry does last. -/
noncomputable def rgetTail (callf : CallF) (v41 : List T) (s42 : St) : Option (T × St) :=
  bd (aLoadN 8 (v41.getD 3 .any) s42.get) fun t59 =>
  bd2 (callf 32 [t59] s42) fun t60 s45 =>
  bd (aExtract t60 0) fun t61 =>
  bd (aExtract t60 1) fun t62 =>
  bd (aNil (v41.getD 2 .any)) fun t64 =>
  bd (aFieldAddr 2 t64) fun t65 =>
  bd (aLoad1 t65 s45.get) fun t66 =>
  bd (gT (gd t66 false) (some t62)) fun t68 =>
  bd (gT (gd t66 false) (aBin .neq t68 (I .i64 0))) fun t69 =>
  bd (aPick t66 (B true) t69) fun t70 =>
  bd (gT (gd t70 false) (some t61)) fun t72 =>
  bd (gT (gd t70 false) (some (v41.getD 0 .any))) fun t73 =>
  bd (gT (gd t70 false) (aBin .neq t72 t73)) fun t74 =>
  bd (aPick t70 (B true) t74) fun t75 =>
  br t75 (bd (asAggT (aFill [.int .i64 0, .int .i64 0, .int .i64 0, .int .i64 0, .int .i64 0, .int .i64 0, .int .u32 0, .str []] [])) fun t76 =>
  bd2 (aStore 8 (v41.getD 1 .any) t76 s45) fun _ s46 =>
  bd (rC (aLoadN 8 (v41.getD 1 .any) s46.get) (rT (I .i64 2) (some []))) fun l47 => bd (retT l47) fun r48 =>
  some (r48, s46))
  (bd (aLoadN 8 (v41.getD 3 .any) s45.get) fun t77 =>
  bd2 (aStore 8 (v41.getD 1 .any) t77 s45) fun _ s49 =>
  bd (rC (aLoadN 8 (v41.getD 1 .any) s49.get) (rT (I .i64 0) (some []))) fun l50 => bd (retT l50) fun r51 =>
  some (r51, s49))

theorem neq_str (a b : Bs) : aBin .neq (Z (.str a)) (Z (.str b)) = some (B (!decide (a = b))) := by simp [aBin, aStr]

theorem rtail_run (d : Nat) {s0 u : St} {n c m at_ : Nat} {bad : Bool} {w : Ent} (h : Rdr s0 u c m b at_ bad w) (hn : n < s0.size) (bn : s0.get n = some (.cells true (cE ent0))) (hs : s.size ≤ n) (g0 : Gr s s0) (hw : EWf w) (hx : w.x.length ≤ 8000) :
    ∃ τ, rgetTail (R (d + 5)) [Z (.str b), Z (.ptr n 0), Z (.ptr c 0), Z (.ptr m 0)] u = some (resE (if bad = false ∧ putE w = some b then some w else none), τ) ∧ Gr s τ := by
  unfold rgetTail
  have hm0 := h.e0
  have hc0 := h.c0
  have l8 := load8 (g := u.get) h.en
  obtain ⟨v, e2, g2⟩ := rput_run d h.wf w hw hx
  have an : aNil (Z (.ptr c 0)) = some (Z (.ptr c 0)) := rfl
  have fa : aFieldAddr 2 (Z (.ptr c 0)) = some (Z (.ptr c 2)) := by simp [aFieldAddr]
  have rc : v.get c = some (.cells true (cC b at_ bad)) := g2.get h.rd h.wf
  have l2 : aLoad1 (Z (.ptr c 2)) v.get = some (B bad) := aLoad1_of rc rfl
  have rm : v.get m = some (.cells true (cE w)) := g2.get h.en h.wf
  have l9 := load8 (g := v.get) rm
  have vn : v.get n = some (.cells true (cE ent0)) := by rw [g2.2.2 n (Nat.lt_of_lt_of_le hn h.sz), h.old n hn]; exact bn
  have gs : ∀ bk : Blk, Gr s (v.set n bk) := fun bk => by
    have hz := g2.2.1
    have hz2 := h.sz
    refine ⟨St.wf_set g2.wf (by omega) _, by simp; have := g0.2.1; omega, fun k hk => ?_⟩
    rw [St.get_set_ne _ _ (by omega), g2.2.2 k (by omega), h.old k (by omega), g0.2.2 k hk]
  have fin : ∀ e', aStore 8 (Z (.ptr n 0)) (AE e') v = some (tt, v.set n (.cells true (cE e'))) ∧ aLoadN 8 (Z (.ptr n 0)) (v.set n (.cells true (cE e'))).get = some (AE e') := fun e' => ⟨store8 vn rfl, load8 (St.get_set_same _ _ _)⟩
  by_cases hp : bad = false ∧ putE w = some b
  · obtain ⟨rfl, hp2⟩ := hp
    rw [if_pos ⟨rfl, hp2⟩]
    rw [hp2] at e2
    obtain ⟨q1, q2⟩ := fin w
    have nq := neq_str b b
    refine ⟨v.set n (.cells true (cE w)), ?_, gs _⟩
    generalize v.set n (.cells true (cE w)) = v2 at *
    generalize R (d + 5) = r at *
    simp [l8, e2, aExtract, an, fa, l2, nq, l9, q1, q2, rC, rT, retT, allV]
  · rw [if_neg hp]
    obtain ⟨q1, q2⟩ := fin ent0
    refine ⟨v.set n (.cells true (cE ent0)), ?_, gs _⟩
    generalize v.set n (.cells true (cE ent0)) = v2 at *
    cases bad with
    | true =>
      generalize R (d + 5) = r at *
      cases hq : putE w with
      | none => rw [hq] at e2; simp [l8, e2, aExtract, an, fa, l2, gtt, agg8, q1, q2, rC, rT, retT, allV]
      | some bs => rw [hq] at e2; simp [l8, e2, aExtract, an, fa, l2, gtt, agg8, q1, q2, rC, rT, retT, allV]
    | false =>
      generalize R (d + 5) = r at *
      cases hq : putE w with
      | none => rw [hq] at e2; simp [l8, e2, aExtract, an, fa, l2, gtt, agg8, q1, q2, rC, rT, retT, allV]
      | some bs =>
        rw [hq] at e2
        have hne : bs ≠ b := fun e => hp ⟨rfl, by rw [hq, e]⟩
        have nq := neq_str bs b
        rw [decide_eq_false hne] at nq
        simp [l8, e2, aExtract, an, fa, l2, nq, agg8, q1, q2, rC, rT, retT, allV]

set_option maxHeartbeats 4000000 in
theorem rget_e_run (d : Nat) (wf : s.wf) (hl : b.length ≤ 8000) : ∃ t, R (d + 6) 34 [Z (.str b)] s = some (resE (getE b), t) ∧ Gr s t := by
  rw [f34_run]
  unfold f34
  obtain ⟨n, hn⟩ : ∃ n, n = s.size := ⟨_, rfl⟩
  obtain ⟨s1, hs1⟩ : ∃ s1, s1 = s.push (.cells true (cE ent0)) := ⟨_, rfl⟩
  have nw1 : aNew s (nCells [.int .i64 0, .int .i64 0, .int .i64 0, .int .i64 0, .int .i64 0, .int .i64 0, .int .u32 0, .str []]) = some (Z (.ptr n 0), s1) := by rw [hs1, hn]; rfl
  have g1 : Gr s s1 := by rw [hs1]; exact Gr.push wf _
  have z1 : s1.size = n + 1 := by rw [hs1, hn]; rfl
  have b1 : s1.get n = some (.cells true (cE ent0)) := by rw [hs1, hn]; exact St.get_push_same _ _
  have ag1' : asAggT (aFill [.str [], .int .i64 0, .bool false] [(0, 1, Z (.str b))]) = some (.v (.agg (cC b 0 false))) := rfl
  obtain ⟨s2, hs2⟩ : ∃ s2, s2 = s1.push (.cells true (cC b 0 false)) := ⟨_, rfl⟩
  have nw2 : aNew s1 (nBox (.v (.agg (cC b 0 false)))) = some (Z (.ptr (n + 1) 0), s2) := by rw [hs2, ← z1]; rfl
  have g2 : Gr s1 s2 := by rw [hs2]; exact Gr.push g1.wf _
  have z2 : s2.size = n + 2 := by rw [hs2]; simp [z1]
  have b2 : s2.get (n + 1) = some (.cells true (cC b 0 false)) := by rw [hs2, ← z1]; exact St.get_push_same _ _
  obtain ⟨s3, e3, r3, bt3⟩ := rbyte_run (d + 4) g2.wf b2
  obtain ⟨a0, ha0⟩ : ∃ a0, a0 = if b = [] then 0 else 1 := ⟨_, rfl⟩
  obtain ⟨x0, hx0⟩ : ∃ x0, x0 = decide (b = []) := ⟨_, rfl⟩
  rw [← ha0, ← hx0] at r3
  obtain ⟨kb, hkb⟩ : ∃ kb, kb = (b.headD 0).toNat := ⟨_, rfl⟩
  rw [← hkb] at e3
  have hkl : kb < 256 := by rw [hkb]; exact (b.headD 0).toNat_lt
  have wk : IntKind.i64.wrap ((kb : Nat) : Int) = ((kb : Nat) : Int) := wrapi _ (by omega)
  obtain ⟨w0, hw0⟩ : ∃ w0 : Ent, w0 = { ent0 with k := (kb : Nat) } := ⟨_, rfl⟩
  have ag2 : asAggT (aFill [.int .i64 0, .int .i64 0, .int .i64 0, .int .i64 0, .int .i64 0, .int .i64 0, .int .u32 0, .str []] [(0, 1, I .i64 (kb : Nat))]) = some (AE w0) := by rw [hw0]; rfl
  obtain ⟨s4, hs4⟩ : ∃ s4, s4 = s3.push (.cells true (cE ent0)) := ⟨_, rfl⟩
  obtain ⟨m, hm⟩ : ∃ m, m = s3.size := ⟨_, rfl⟩
  have nw4 : aNew s3 (nCells [.int .i64 0, .int .i64 0, .int .i64 0, .int .i64 0, .int .i64 0, .int .i64 0, .int .u32 0, .str []]) = some (Z (.ptr m 0), s4) := by rw [hs4, hm]; rfl
  have b4 : s4.get m = some (.cells true (cE ent0)) := by rw [hs4, hm]; exact St.get_push_same _ _
  have hmn : n + 2 ≤ m := by have := bt3.2.1; omega
  have z4 : s4.size = m + 1 := by rw [hs4]; simp [hm]
  obtain ⟨s5, hs5⟩ : ∃ s5, s5 = s4.set m (.cells true (cE w0)) := ⟨_, rfl⟩
  have st5 := store8 (e := w0) b4 rfl
  rw [← hs5] at st5
  have st5' := st5
  have R5 : Rdr s1 s5 (n + 1) m b a0 x0 w0 := by
    refine ⟨by rw [hs5, hs4]; exact St.wf_set (St.wf_push bt3.1 _) (by simp [← hm]) _, by rw [hs5]; simp [z4]; omega, fun k hk => ?_, by omega, by omega, by omega, ?_, by rw [hs5]; exact St.get_set_same _ _ _, ?_⟩
    · rw [hs5, St.get_set_ne _ _ (by omega), hs4, St.get_push_ne _ _ (by omega), bt3.2.2 k (by omega) (by omega), g2.2.2 k hk]
    · rw [hs5, St.get_set_ne _ _ (by omega), hs4, St.get_push_ne _ _ (by omega)]; exact r3
    · rw [ha0]
      split
      · omega
      · rename_i h; exact List.length_pos_iff.2 h
  have hl5 : b.length ≤ 100000 := by omega
  obtain ⟨s6, ⟨v6, e6, e7⟩, R6⟩ := R5.nx (d + 3) hl5 1073741824 (by omega)
  obtain ⟨p, hp⟩ : ∃ p, p = rnx b 1073741824 a0 x0 := ⟨_, rfl⟩
  rw [← hp] at e7 R6
  obtain ⟨w1, hw1⟩ : ∃ w1 : Ent, w1 = { w0 with v := (p.1 : Nat) } := ⟨_, rfl⟩
  obtain ⟨s8, e8, R8⟩ := R6.set (j := 1) (v := .int .i64 (p.1 : Nat)) (w' := w1) (by omega) (by rw [hw1]; rfl)
  have l8 : aLoad1 (Z (.ptr m 0)) s8.get = some (I .i64 (kb : Nat)) := aLoad1_of R8.en (by rw [hw1, hw0]; rfl)
  have fe : ∀ j, aFieldAddr j (Z (.ptr m 0)) = some (Z (.ptr m j)) := fun j => by simp [aFieldAddr]
  have fc : ∀ j, aFieldAddr j (Z (.ptr (n + 1) 0)) = some (Z (.ptr (n + 1) j)) := fun j => by simp [aFieldAddr]
  have an : aNil (Z (.ptr (n + 1) 0)) = some (Z (.ptr (n + 1) 0)) := rfl
  have finq : ∀ (u : St) (a : Nat) (bad : Bool) (w : Ent), Rdr s1 u (n + 1) m b a bad w → EWf w → w.x.length ≤ 8000 → ∃ τ, rgetTail (R (d + 5)) [Z (.str b), Z (.ptr n 0), Z (.ptr (n + 1) 0), Z (.ptr m 0)] u = some (resE (if bad = false ∧ putE w = some b then some w else none), τ) ∧ Gr s τ := fun u a bad w h hw hx =>
    rtail_run d h (by omega) b1 (by omega) g1 hw hx
  have nxq : ∀ (u : St) (a : Nat) (bad : Bool) (w : Ent), Rdr s1 u (n + 1) m b a bad w → ∀ most, most < 2 ^ 62 → ∃ u', (∃ v : Nat, R (d + 5) 58 [Z (.ptr (n + 1) 0)] u = some (I .u64 (v : Nat), u') ∧ R (d + 5) 57 [I .u64 (v : Nat), I .u64 (most : Nat)] u' = some (I .i64 ((rnx b most a bad).1 : Nat), u')) ∧
      Rdr s1 u' (n + 1) m b (rnx b most a bad).2.1 (rnx b most a bad).2.2 w := fun u a bad w h most hm => h.nx (d + 3) hl5 most hm
  have hw1' : EWf w1 := by rw [hw1, hw0]; exact ⟨Int.le_refl 0, (by decide : (0 : Int) < 4294967296)⟩
  have hx1 : w1.x.length ≤ 8000 := by rw [hw1, hw0]; simp [ent0]
  rw [rget_eq' b]
  clear bt3 r3 g2 R5 R6 st5
  simp only [Nat.add_assoc, Nat.reduceAdd] at e3 e6 e7
  by_cases k1 : kb = 1
  · have d1 : decide (((kb : Nat) : Int) = 1) = true := decide_eq_true (by omega)
    obtain ⟨u1, ⟨x1, a1, c1⟩, r1⟩ := nxq s8 _ _ _ R8 1073741824 (by omega)
    obtain ⟨I1, hI1⟩ : ∃ I1, I1 = rnx b 1073741824 p.2.1 p.2.2 := ⟨_, rfl⟩
    rw [← hI1] at c1 r1
    obtain ⟨u2, ⟨x2, a2, c2⟩, r2⟩ := nxq u1 _ _ _ r1 4 (by omega)
    obtain ⟨T1, hT1⟩ : ∃ T1, T1 = rnx b 4 I1.2.1 I1.2.2 := ⟨_, rfl⟩
    rw [← hT1] at c2 r2
    obtain ⟨u3, a3, r3⟩ := r2.set (j := 2) (v := .int .i64 (I1.1 : Nat)) (w' := { w1 with i := (I1.1 : Nat) }) (by omega) rfl
    obtain ⟨u4, a4, r4⟩ := r3.set (j := 3) (v := .int .i64 (T1.1 : Nat)) (w' := { w1 with i := (I1.1 : Nat), t := (T1.1 : Nat) }) (by omega) rfl
    obtain ⟨u5, ⟨x5, a5, c5⟩, r5⟩ := nxq u4 _ _ _ r4 1099511627776 (by omega)
    obtain ⟨F1, hF1⟩ : ∃ F1, F1 = rnx b 1099511627776 T1.2.1 T1.2.2 := ⟨_, rfl⟩
    rw [← hF1] at c5 r5
    obtain ⟨u6, ⟨x6, a6, c6⟩, r6⟩ := nxq u5 _ _ _ r5 1099511627776 (by omega)
    obtain ⟨O1, hO1⟩ : ∃ O1, O1 = rnx b 1099511627776 F1.2.1 F1.2.2 := ⟨_, rfl⟩
    rw [← hO1] at c6 r6
    obtain ⟨u7, a7, r7⟩ := r6.set (j := 4) (v := .int .i64 (F1.1 : Nat)) (w' := { w1 with i := (I1.1 : Nat), t := (T1.1 : Nat), f := (F1.1 : Nat) }) (by omega) rfl
    obtain ⟨u8, a8, r8⟩ := r7.set (j := 5) (v := .int .i64 (O1.1 : Nat)) (w' := { w1 with i := (I1.1 : Nat), t := (T1.1 : Nat), f := (F1.1 : Nat), o := (O1.1 : Nat) }) (by omega) rfl
    obtain ⟨u9, a9, r9⟩ := r8.num (d + 3) hl5
    obtain ⟨U1, hU1⟩ : ∃ U1, U1 = rnum b O1.2.1 O1.2.2 := ⟨_, rfl⟩
    rw [← hU1] at a9 r9
    have wU : IntKind.u32.wrap ((U1.1 : Nat) : Int) = ((U1.1 % 4294967296 : Nat) : Int) := wrap32 _
    obtain ⟨u10, a10, r10⟩ := r9.set (j := 6) (v := .int .u32 (U1.1 % 4294967296 : Nat)) (w' := { w1 with i := (I1.1 : Nat), t := (T1.1 : Nat), f := (F1.1 : Nat), o := (O1.1 : Nat), u := (U1.1 % 4294967296 : Nat) }) (by omega) rfl
    obtain ⟨τ, et, gt⟩ := finq u10 _ _ _ r10 ⟨Int.natCast_nonneg _, by show ((U1.1 % 4294967296 : Nat) : Int) < 4294967296; omega⟩ hx1
    have hres : rgetF b = ({ w1 with i := (I1.1 : Nat), t := (T1.1 : Nat), f := (F1.1 : Nat), o := (O1.1 : Nat), u := (U1.1 % 4294967296 : Nat) }, U1.2.2) := by
      unfold rgetF
      simp only [← hkb, ← ha0, ← hx0, ← hp, ← hI1, ← hT1, ← hF1, ← hO1, ← hU1, if_pos k1, hw1, hw0]
    rw [hres]
    refine ⟨τ, ?_, gt⟩
    clear nxq finq r1 r2 r3 r4 r5 r6 r7 r8 r9 r10 hres R8
    unfold rgetTail at et
    simp only [] at et ⊢
    generalize resE (if U1.2.2 = false ∧ putE { w1 with i := (I1.1 : Nat), t := (T1.1 : Nat), f := (F1.1 : Nat), o := (O1.1 : Nat), u := (U1.1 % 4294967296 : Nat) } = some b then some { w1 with i := (I1.1 : Nat), t := (T1.1 : Nat), f := (F1.1 : Nat), o := (O1.1 : Nat), u := (U1.1 % 4294967296 : Nat) } else none) = RES at *
    simp only [Nat.add_assoc, Nat.reduceAdd] at a9
    generalize R (d + 5) = r at *
    generalize ((p.1 : Nat) : Int) = PV at *
    generalize ((I1.1 : Nat) : Int) = IV at *
    generalize ((T1.1 : Nat) : Int) = TV at *
    generalize ((F1.1 : Nat) : Int) = FV at *
    generalize ((O1.1 : Nat) : Int) = OV at *
    generalize ((U1.1 % 4294967296 : Nat) : Int) = UM at *
    generalize ((U1.1 : Nat) : Int) = UV at *
    generalize ((x1 : Nat) : Int) = X1 at *
    generalize ((x2 : Nat) : Int) = X2 at *
    generalize ((x5 : Nat) : Int) = X5 at *
    generalize ((x6 : Nat) : Int) = X6 at *
    generalize ((v6 : Nat) : Int) = V6 at *
    generalize ((kb : Nat) : Int) = KB at *
    have e7' : r 57 [I .u64 V6, I .u64 1073741824] s6 = some (I .i64 PV, s6) := e7
    have c1' : r 57 [I .u64 X1, I .u64 1073741824] u1 = some (I .i64 IV, u1) := c1
    have c2' : r 57 [I .u64 X2, I .u64 4] u2 = some (I .i64 TV, u2) := c2
    have c5' : r 57 [I .u64 X5, I .u64 1099511627776] u5 = some (I .i64 FV, u5) := c5
    have c6' : r 57 [I .u64 X6, I .u64 1099511627776] u6 = some (I .i64 OV, u6) := c6
    simpa [nw1, ag1', nw2, e3, wk, ag2, nw4, st5', e6, e7', fe, e8, l8, d1, a1, c1', a2, c2', a3, a4, a5, c5', a6, c6', a7, a8, a9, wU, a10] using et
  · have d1 : decide (((kb : Nat) : Int) = 1) = false := decide_eq_false (by omega)
    by_cases k2 : kb = 2
    · have d2 : decide (((kb : Nat) : Int) = 2) = true := decide_eq_true (by omega)
      obtain ⟨u1, ⟨x1, a1, c1⟩, r1⟩ := nxq s8 _ _ _ R8 1073741824 (by omega)
      obtain ⟨I1, hI1⟩ : ∃ I1, I1 = rnx b 1073741824 p.2.1 p.2.2 := ⟨_, rfl⟩
      rw [← hI1] at c1 r1
      obtain ⟨u3, a3, r3⟩ := r1.set (j := 2) (v := .int .i64 (I1.1 : Nat)) (w' := { w1 with i := (I1.1 : Nat) }) (by omega) rfl
      obtain ⟨τ, et, gt⟩ := finq u3 _ _ _ r3 ⟨hw1'.1, hw1'.2⟩ hx1
      have hres : rgetF b = ({ w1 with i := (I1.1 : Nat) }, I1.2.2) := by
        unfold rgetF
        simp only [← hkb, ← ha0, ← hx0, ← hp, ← hI1, if_neg k1, if_pos k2, hw1, hw0]
      rw [hres]
      refine ⟨τ, ?_, gt⟩
      clear nxq finq r1 r3 hres R8
      unfold rgetTail at et
      simp only [] at et ⊢
      generalize resE (if I1.2.2 = false ∧ putE { w1 with i := (I1.1 : Nat) } = some b then some { w1 with i := (I1.1 : Nat) } else none) = RES at *
      generalize R (d + 5) = r at *
      generalize ((p.1 : Nat) : Int) = PV at *
      generalize ((I1.1 : Nat) : Int) = IV at *
      generalize ((x1 : Nat) : Int) = X1 at *
      generalize ((v6 : Nat) : Int) = V6 at *
      generalize ((kb : Nat) : Int) = KB at *
      have e7' : r 57 [I .u64 V6, I .u64 1073741824] s6 = some (I .i64 PV, s6) := e7
      have c1' : r 57 [I .u64 X1, I .u64 1073741824] u1 = some (I .i64 IV, u1) := c1
      simpa [nw1, ag1', nw2, e3, wk, ag2, nw4, st5', e6, e7', fe, e8, l8, d1, d2, a1, c1', a3] using et
    · have d2 : decide (((kb : Nat) : Int) = 2) = false := decide_eq_false (by omega)
      by_cases k4 : kb = 4
      · have d4 : decide (((kb : Nat) : Int) = 4) = true := decide_eq_true (by omega)
        obtain ⟨u1, a1, r1⟩ := R8.num (d + 3) hl5
        obtain ⟨M1, hM1⟩ : ∃ M1, M1 = rnum b p.2.1 p.2.2 := ⟨_, rfl⟩
        rw [← hM1] at a1 r1
        obtain ⟨u2, a2, r2⟩ := r1.text (d + 4) hl5 (n := M1.1)
        obtain ⟨X1, hX1⟩ : ∃ X1, X1 = rtext b M1.1 M1.2.1 M1.2.2 := ⟨_, rfl⟩
        rw [← hX1] at a2 r2
        obtain ⟨u3, a3, r3⟩ := r2.set (j := 7) (v := .str X1.1) (w' := { w1 with x := X1.1 }) (by omega) rfl
        have hxl : X1.1.length ≤ 8000 := by
          rw [hX1]
          unfold rtext
          split
          · simp
          · simp; omega
        obtain ⟨τ, et, gt⟩ := finq u3 _ _ _ r3 ⟨hw1'.1, hw1'.2⟩ hxl
        have hres : rgetF b = ({ w1 with x := X1.1 }, X1.2.2) := by
          unfold rgetF
          simp only [← hkb, ← ha0, ← hx0, ← hp, ← hM1, ← hX1, if_neg k1, if_neg k2, if_pos k4, hw1, hw0]
        rw [hres]
        refine ⟨τ, ?_, gt⟩
        clear nxq finq r1 r2 r3 hres R8
        unfold rgetTail at et
        simp only [] at et ⊢
        generalize resE (if X1.2.2 = false ∧ putE { w1 with x := X1.1 } = some b then some { w1 with x := X1.1 } else none) = RES at *
        simp only [Nat.add_assoc, Nat.reduceAdd] at a1 a2
        generalize R (d + 5) = r at *
        generalize ((p.1 : Nat) : Int) = PV at *
        generalize ((M1.1 : Nat) : Int) = MV at *
        generalize ((v6 : Nat) : Int) = V6 at *
        generalize ((kb : Nat) : Int) = KB at *
        have e7' : r 57 [I .u64 V6, I .u64 1073741824] s6 = some (I .i64 PV, s6) := e7
        simpa [nw1, ag1', nw2, e3, wk, ag2, nw4, st5', e6, e7', fe, e8, l8, d1, d2, d4, a1, a2, a3] using et
      · have d4 : decide (((kb : Nat) : Int) = 4) = false := decide_eq_false (by omega)
        obtain ⟨τ, et, gt⟩ := finq s8 _ _ _ R8 hw1' hx1
        have hres : rgetF b = (w1, p.2.2) := by
          unfold rgetF
          simp only [← hkb, ← ha0, ← hx0, ← hp, if_neg k1, if_neg k2, if_neg k4, hw1, hw0]
        rw [hres]
        refine ⟨τ, ?_, gt⟩
        clear nxq finq hres R8
        unfold rgetTail at et
        simp only [] at et ⊢
        generalize resE (if p.2.2 = false ∧ putE w1 = some b then some w1 else none) = RES at *
        generalize R (d + 5) = r at *
        generalize ((p.1 : Nat) : Int) = PV at *
        generalize ((v6 : Nat) : Int) = V6 at *
        generalize ((kb : Nat) : Int) = KB at *
        have e7' : r 57 [I .u64 V6, I .u64 1073741824] s6 = some (I .i64 PV, s6) := e7
        simpa [nw1, ag1', nw2, e3, wk, ag2, nw4, st5', e6, e7', fe, e8, l8, d1, d2, d4] using et
end
end Go.Proofs.YtlhbidbdmdcdeaaGreatDoor

/-
  The document's own reading of frames, and whether entries are the same. No conditions but those named in each line.
-/
namespace Go.Proofs.YtlhbidbdmdcdeaaGreatDoor
open Go Go.Abs Go.Abs.F
set_option linter.unusedVariables false

theorem vget_end {b : Bs} {n : Nat} (h : b.length ≤ n) : vget b n = none := by
  unfold vget
  by_cases h2 : n ≤ b.length
  · rw [if_pos h2]
    have : b[n + 0]? = none := List.getElem?_eq_none (by omega)
    unfold getN
    rw [this]
  · rw [if_neg h2]

theorem openB_none {b : Bs} {n : Nat} (h : vget b n = none) : openB b n = none := by
  unfold openB; rw [h]
theorem openB_some {b : Bs} {a n to : Nat} (h : vget b a = some (n, to)) : openB b a = if b.length < to + 4 + n then none else
    if (b.drop a).take (to + 4 + n - a) = wrapB ((b.drop (to + 4)).take n) then some ((b.drop (to + 4)).take n, to + 4 + n) else none := by
  unfold openB
  rw [h]
  by_cases c : b.length < to + 4 + n
  · rw [if_pos c]
    simp only
    rw [if_pos (by omega)]
  · rw [if_neg c]
    simp only
    rw [if_neg (by omega)]

theorem readL_stop {b : Bs} {q a : Nat} {acc : List Ent} (h : openB b a = none ∨ q = 0 ∨ ∃ x to, openB b a = some (x, to) ∧ getE x = none) : readL b q a acc = (acc, a) := by
  cases q with
  | zero => rfl
  | succ q =>
    rcases h with h | h | ⟨x, to, h, h2⟩
    · unfold readL; rw [h]
    · omega
    · unfold readL; rw [h]; simp only [h2]

theorem meetP_self : ∀ l : List Ent, meetP l l = l.length
  | [] => rfl
  | a :: r => by unfold meetP; rw [if_pos rfl, meetP_self r]; rfl
theorem meetP_all : ∀ {l m : List Ent}, l.length = m.length → meetP l m = l.length → l = m
  | [], [], _, _ => rfl
  | [], _ :: _, h, _ => by simp at h
  | _ :: _, [], h, _ => by simp at h
  | a :: r, b :: t, h, k => by
    unfold meetP at k
    split at k
    · rename_i e
      rw [e, meetP_all (l := r) (m := t) (by simpa using h) (by simpa using k)]
    · simp at k

section
variable {s t : St} {b : Bs}

set_option maxHeartbeats 4000000 in
theorem rread_run (d : Nat) (wf : s.wf) (hl : b.length ≤ 7900) : ∃ y t, R (d + 7) 20 [Z (.str b)] s = some (resR y (readP b), t) ∧ FE s t y (readP b).1 := by
  rw [f20_run]
  unfold f20
  have hlen : aLenStr (Z (.str b)) = some (I .i64 ((b.length : Nat) : Int)) := rfl
  have wl : IntKind.u64.wrap ((b.length : Nat) : Int) = ((b.length : Nat) : Int) := wrap64 _ (by omega)
  obtain ⟨j, τ, lp, z, hj, f⟩ := loops_inv (f := f20_l1 (R (d + 6)) 8192) (fun q v u => ∃ (at_ : Nat) (z : S) (acc : List Ent), q + acc.length = 2000 ∧ v = [Z (.str b), Z z, I .i64 (at_ : Nat)] ∧ FE s u z acc ∧ at_ ≤ b.length ∧ readL b q at_ acc = readP b)
    (fun j u => ∃ z, j = .exit 0 [Z z, I .i64 ((readP b).2 : Nat)] ∧ FE s u z (readP b).1) (by
    rintro q v u ⟨at_, z, acc, hq, rfl, f, ha, hr⟩
    have hll := f.rd.lens
    -- it ends here
    have stop : ∀ u', readL b q at_ acc = (acc, at_) → Gr u u' → f20_l1 (R (d + 6)) 8192 [Z (.str b), Z z, I .i64 (at_ : Nat)] u = some (.exit 0 [Z z, I .i64 (at_ : Nat)], u') →
        ∃ j s', f20_l1 (R (d + 6)) 8192 [Z (.str b), Z z, I .i64 (at_ : Nat)] u = some (j, s') ∧ (∀ v, j ≠ .normal v) ∧ ∃ z, j = .exit 0 [Z z, I .i64 ((readP b).2 : Nat)] ∧ FE s s' z (readP b).1 := fun u' h g e => by
      rw [h] at hr
      exact ⟨_, u', e, (fun v hv => by cases hv), z, by rw [← hr], by rw [← hr]; exact f.gr' g⟩
    have gu := Gr.refl f.gr.wf
    by_cases hal : at_ < b.length
    · have c0 : ((at_ : Nat) : Int) < ((b.length : Nat) : Int) := by omega
      by_cases hc : acc.length < 2000
      · have c1 : ((acc.length : Nat) : Int) < 2000 := by omega
        have e1 := rget_run (s := u) (bs := b) (d + 5) (by omega) (at_ := at_) (by omega)
        simp only [Nat.add_assoc, Nat.reduceAdd] at e1
        cases hv : vget b at_ with
        | none =>
          rw [hv] at e1
          simp only [vres, if_pos ha] at e1
          right
          refine stop u (readL_stop (.inl (openB_none hv))) gu ?_
          unfold f20_l1
          generalize ((acc.length : Nat) : Int) = L at *
          generalize ((b.length : Nat) : Int) = BL at *
          generalize ((at_ : Nat) : Int) = A at *
          generalize R (d + 6) = r at *
          simp [hlen, c0, hll, c1, e1, aExtract, gtt]
        | some p =>
          obtain ⟨n, k⟩ := p
          obtain ⟨hk1, hk2⟩ := vget_lt hv
          rw [hv] at e1
          simp only [vres] at e1
          have hos := openB_some hv
          by_cases hn : b.length < n
          · have c2 : ((b.length : Nat) : Int) < ((n : Nat) : Int) := by omega
            rw [if_pos (by omega)] at hos
            right
            refine stop u (readL_stop (.inl hos)) gu ?_
            unfold f20_l1
            generalize ((acc.length : Nat) : Int) = L at *
            generalize ((b.length : Nat) : Int) = BL at *
            generalize ((at_ : Nat) : Int) = A at *
            generalize ((n : Nat) : Int) = NN at *
            generalize ((k : Nat) : Int) = K at *
            generalize R (d + 6) = r at *
            simp [hlen, c0, hll, c1, e1, aExtract, wl, c2, gtt]
          · have c2 : ¬ ((b.length : Nat) : Int) < ((n : Nat) : Int) := by omega
            have w1 : IntKind.i64.wrap (((k : Nat) : Int) + 4) = ((k + 4 : Nat) : Int) := by rw [wrap_in _ (by omega) (by omega)]; omega
            have w2 : IntKind.i64.wrap ((n : Nat) : Int) = ((n : Nat) : Int) := wrapi _ (by omega)
            have w3 : IntKind.i64.wrap (((k + 4 : Nat) : Int) + ((n : Nat) : Int)) = ((k + 4 + n : Nat) : Int) := by rw [wrap_in _ (by omega) (by omega)]; omega
            by_cases h4 : b.length < k + 4 + n
            · have c3 : ((b.length : Nat) : Int) < ((k + 4 + n : Nat) : Int) := by omega
              rw [if_pos h4] at hos
              right
              refine stop u (readL_stop (.inl hos)) gu ?_
              unfold f20_l1
              generalize ((k + 4 + n : Nat) : Int) = K4N at *
              generalize ((k + 4 : Nat) : Int) = K4 at *
              generalize ((acc.length : Nat) : Int) = L at *
              generalize ((b.length : Nat) : Int) = BL at *
              generalize ((at_ : Nat) : Int) = A at *
              generalize ((n : Nat) : Int) = NN at *
              generalize ((k : Nat) : Int) = K at *
              generalize R (d + 6) = r at *
              simp [hlen, c0, hll, c1, e1, aExtract, wl, c2, w1, w2, w3, c3, gtt]
            · have c3 : ¬ ((b.length : Nat) : Int) < ((k + 4 + n : Nat) : Int) := by omega
              rw [if_neg h4] at hos
              have pc := aPieceStr_lh (l := b) (lo := k + 4) (hi := k + 4 + n) rfl rfl (by omega) (by omega)
              rw [Nat.add_sub_cancel_left] at pc
              obtain ⟨x, hx⟩ : ∃ x, x = (b.drop (k + 4)).take n := ⟨_, rfl⟩
              rw [← hx] at pc hos
              have hxl : x.length ≤ 7900 := by rw [hx]; simp; omega
              obtain ⟨u1, e2, g1⟩ := rget_e_run (b := x) d f.gr.wf (by omega)
              obtain ⟨u2, hu2⟩ : ∃ u2, u2 = u1.push (.cells true (cE ent0)) := ⟨_, rfl⟩
              have b0 : u2.get u1.size = some (.cells true (cE ent0)) := by rw [hu2]; exact St.get_push_same _ _
              have g2 : Gr u1 u2 := by rw [hu2]; exact Gr.push g1.wf _
              have z2 : u2.size = u1.size + 1 := by rw [hu2]; simp
              have nw : aNew u1 (nCells [.int .i64 0, .int .i64 0, .int .i64 0, .int .i64 0, .int .i64 0, .int .i64 0, .int .u32 0, .str []]) = some (Z (.ptr u1.size 0), u2) := by rw [hu2]; rfl
              have gset : ∀ bk : Blk, Gr u1 (u2.set u1.size bk) := fun bk =>
                ⟨St.wf_set g2.wf (by omega) _, by simpa using g2.2.1, fun c hc => by rw [St.get_set_ne _ _ (by omega)]; exact g2.2.2 c hc⟩
              cases hg : getE x with
              | none =>
                rw [hg] at e2
                have st := store8 (e := ent0) b0 rfl
                right
                refine stop (u2.set u1.size (.cells true (cE ent0))) (readL_stop ?_) (g1.trans (gset _)) ?_
                · by_cases hw : (b.drop at_).take (k + 4 + n - at_) = wrapB x
                  · rw [if_pos hw] at hos
                    exact .inr (.inr ⟨_, _, hos, hg⟩)
                  · rw [if_neg hw] at hos
                    exact .inl hos
                · unfold f20_l1
                  generalize ((k + 4 + n : Nat) : Int) = K4N at *
                  generalize ((k + 4 : Nat) : Int) = K4 at *
                  generalize ((acc.length : Nat) : Int) = L at *
                  generalize ((b.length : Nat) : Int) = BL at *
                  generalize ((at_ : Nat) : Int) = A at *
                  generalize ((n : Nat) : Int) = NN at *
                  generalize ((k : Nat) : Int) = K at *
                  generalize R (d + 6) = r at *
                  simp [hlen, c0, hll, c1, e1, aExtract, wl, c2, w1, w2, w3, c3, pc, e2, nw, st, gtt]
              | some en =>
                rw [hg] at e2
                obtain ⟨hmay, hxe⟩ := getE_back hg
                have hwf := getE_wf hg
                obtain ⟨w, hw⟩ : ∃ w, w = u2.set u1.size (.cells true (cE en)) := ⟨_, rfl⟩
                have bw : w.get u1.size = some (.cells true (cE en)) := by rw [hw]; exact St.get_set_same _ _ _
                have st : aStore 8 (Z (.ptr u1.size 0)) (AE en) u2 = some (tt, w) := by rw [hw]; exact store8 b0 rfl
                have ld : aLoadN 8 (Z (.ptr u1.size 0)) w.get = some (AE en) := load8 bw
                have gw : Gr u1 w := by rw [hw]; exact gset _
                obtain ⟨u5, e5, g5⟩ := rframe_run d gw.wf en hwf (by have := mayE_x hmay; omega)
                have hfr : frameE en = some (wrapB x) := by unfold frameE; rw [hmay, hxe]; rfl
                rw [hfr] at e5
                simp only [resS] at e5
                have ld5 : aLoadN 8 (Z (.ptr u1.size 0)) u5.get = some (AE en) := load8 (g5.get bw gw.wf)
                have pc2 := aPieceStr_lh (l := b) (lo := at_) (hi := k + 4 + n) rfl rfl (by omega) (by omega)
                have nq := neq_str (wrapB x) ((b.drop at_).take (k + 4 + n - at_))
                by_cases hwr : (b.drop at_).take (k + 4 + n - at_) = wrapB x
                · rw [if_pos hwr] at hos
                  rw [decide_eq_true hwr.symm] at nq
                  obtain ⟨q', rfl⟩ : ∃ q', q = q' + 1 := ⟨q - 1, by omega⟩
                  have hr' : readL b q' (k + 4 + n) (acc ++ [en]) = readP b := by
                    rw [← hr]
                    conv => rhs; unfold readL
                    rw [hos]
                    simp only [hg]
                  obtain ⟨z2', u7, u6, nw2, ap, f7, _⟩ := FE.lit (e := en) (f.gr' ((g1.trans gw).trans g5)) (by omega)
                  left
                  refine ⟨[Z (.str b), Z z2', I .i64 ((k + 4 + n : Nat) : Int)], u7, q', ?_, rfl, k + 4 + n, z2', acc ++ [en], by simp; omega, rfl, f7, by omega, hr'⟩
                  unfold f20_l1
                  clear hr hr' stop hos hv hfr hwr
                  generalize ((k + 4 + n : Nat) : Int) = K4N at *
                  generalize ((k + 4 : Nat) : Int) = K4 at *
                  generalize ((acc.length : Nat) : Int) = L at *
                  generalize ((b.length : Nat) : Int) = BL at *
                  generalize ((at_ : Nat) : Int) = A at *
                  generalize ((n : Nat) : Int) = NN at *
                  generalize ((k : Nat) : Int) = K at *
                  generalize R (d + 6) = r at *
                  simp [hlen, c0, hll, c1, e1, aExtract, wl, c2, w1, w2, w3, c3, pc, e2, nw, st, ld, e5, pc2, nq, ld5, nw2, ap]
                · rw [if_neg hwr] at hos
                  rw [decide_eq_false (fun e => hwr e.symm)] at nq
                  right
                  refine stop u5 (readL_stop (.inl hos)) ((g1.trans gw).trans g5) ?_
                  unfold f20_l1
                  clear hr stop hos hv hfr hwr
                  generalize ((k + 4 + n : Nat) : Int) = K4N at *
                  generalize ((k + 4 : Nat) : Int) = K4 at *
                  generalize ((acc.length : Nat) : Int) = L at *
                  generalize ((b.length : Nat) : Int) = BL at *
                  generalize ((at_ : Nat) : Int) = A at *
                  generalize ((n : Nat) : Int) = NN at *
                  generalize ((k : Nat) : Int) = K at *
                  generalize R (d + 6) = r at *
                  simp [hlen, c0, hll, c1, e1, aExtract, wl, c2, w1, w2, w3, c3, pc, e2, nw, st, ld, e5, pc2, nq]
      · have c1 : ¬ ((acc.length : Nat) : Int) < 2000 := by omega
        right
        refine stop u (readL_stop (.inr (.inl (by omega)))) gu ?_
        unfold f20_l1
        generalize ((acc.length : Nat) : Int) = L at *
        generalize ((b.length : Nat) : Int) = BL at *
        generalize ((at_ : Nat) : Int) = A at *
        simp [hlen, c0, hll, c1]
    · have c0 : ¬ ((at_ : Nat) : Int) < ((b.length : Nat) : Int) := by omega
      right
      refine stop u (readL_stop (.inl (openB_none (vget_end (by omega))))) gu ?_
      unfold f20_l1
      generalize ((b.length : Nat) : Int) = BL at *
      generalize ((at_ : Nat) : Int) = A at *
      simp [hlen, c0, gtt]) 8192 2000 [Z (.str b), Z .nils, I .i64 0] s ⟨0, .nils, [], rfl, rfl, by exact Fr.nil 8 wf, by omega, rfl⟩ (by omega)
  subst hj
  exact ⟨z, τ, by simp [lp, retT, allV], f⟩

theorem rsame_run (d : Nat) (wf : s.wf) {x y : S} {l m : List Ent} (h : RE s x l) (k : RE s y m) (hl : l.length ≤ 8000) : R (d + 3) 22 [Z x, Z y] s = some (B (decide (l = m)), s) := by
  rw [f22_run]
  unfold f22
  have hll := h.lens
  have kll := k.lens
  have e1 := rfront_run d wf h k hl
  have hml := meetP_le l m
  by_cases hlen : l.length = m.length
  · have hd : decide (((l.length : Nat) : Int) = ((m.length : Nat) : Int)) = true := decide_eq_true (by omega)
    have hq : decide (meetP l m = l.length) = decide (l = m) := by
      apply decide_eq_decide.2
      constructor
      · intro hm
        exact meetP_all hlen hm
      · rintro rfl
        exact meetP_self l
    rw [hq] at e1
    generalize ((l.length : Nat) : Int) = L at *
    generalize ((m.length : Nat) : Int) = M at *
    simp [hll, kll, hd, e1]
  · have hd : decide (((l.length : Nat) : Int) = ((m.length : Nat) : Int)) = false := decide_eq_false (by omega)
    have hq : decide (l = m) = false := decide_eq_false (fun e => hlen (by rw [e]))
    rw [hq]
    generalize ((l.length : Nat) : Int) = L at *
    generalize ((m.length : Nat) : Int) = M at *
    simp [hll, kll, hd, gtt]
end
end Go.Proofs.YtlhbidbdmdcdeaaGreatDoor

/-
  Are entries few? And entries as arguments. No conditions but those named in each line.
-/
namespace Go.Proofs.YtlhbidbdmdcdeaaGreatDoor
open Go Go.Abs Go.Abs.F
set_option linter.unusedVariables false

def fewP (l : List Ent) : Bool := l.all (fun e => decide (e.x.length ≤ 400)) && decide (l.length ≤ 60)

section
variable {s : St} {x : S} {l : List Ent}

theorem lenS_of {e n : Nat} {vs : List S} (h : Rd e s x n vs) : lenS (Z x) = n := by
  rcases h.rd with ⟨rfl, rfl | ⟨c, g, rfl⟩ | ⟨c, o, cap, rfl⟩⟩ | ⟨c, o, cap, w, rows, rfl, _⟩ <;> rfl

theorem few_run (d : Nat) (h : RE s x l) (hl : l.length < 9223372036854775808) : R (d + 1) 18 [Z x] s = some (B (fewP l), s) := by
  refine runQ_prim ?_
  have e1 : toldP 17 true 18 [Z x] s = none := by simp [toldP]
  have e2 : toldP 29 true 18 [Z x] s = none := by simp [toldP]
  refine (orP_right e1).trans ((orP_right e2).trans (orP_left (orP_left ?_)))
  have hc : [18].contains 18 = true := by decide
  simp only [bigP, hc]
  have hN : lenS (([Z x] : List T).headD .any) + 8 = l.length + 8 := by
    show lenS (Z x) + 8 = _
    rw [lenS_of h]
  rw [hN, (runQ_body rfl Tryz.func18 (by kernel_rfl)).trans (f18_eq _ _ _ _)]
  unfold f18
  have hll := h.lens
  obtain ⟨j, τ, lp, hj, rfl⟩ := loops_inv (f := f18_l1 (runQ Tryz.prog (l.length + 8) noPrim 0) (l.length + 8)) (fun q v u => ∃ k : Nat, q + k = l.length ∧ v = [Z x, I .i64 (k : Nat)] ∧ u = s ∧ (l.take k).all (fun e => decide (e.x.length ≤ 400)) = true)
    (fun j u => (j = .exit 0 [Z x] ∧ l.all (fun e => decide (e.x.length ≤ 400)) = true ∨ j = .ret (B false) ∧ l.all (fun e => decide (e.x.length ≤ 400)) = false) ∧ u = s) (by
    rintro q v u ⟨k, hk, rfl, rfl, ha⟩
    by_cases hkl : k < l.length
    · have hg : l[k]? = some l[k] := List.getElem?_eq_getElem hkl
      obtain ⟨c, p, ix, ld, _⟩ := Rd.at h (i := ((k : Nat) : Int)) rfl hkl
      have l7 := ld 7 (.str l[k].x) (by omega) (by rw [cells_get cE_len hg (by omega)]; rfl)
      have fa : aFieldAddr 7 (Z (.ptr c p)) = some (Z (.ptr c (p + 7))) := rfl
      have sl : aLenStr (Z (.str l[k].x)) = some (I .i64 ((l[k].x.length : Nat) : Int)) := rfl
      have c0 : ((k : Nat) : Int) < ((l.length : Nat) : Int) := by omega
      have w1 : IntKind.i64.wrap ((k : Int) + 1) = ((k + 1 : Nat) : Int) := by rw [wrap_in _ (by omega) (by omega)]; omega
      by_cases hx : l[k].x.length ≤ 400
      · left
        have c1 : ¬ (400 : Int) < ((l[k].x.length : Nat) : Int) := by omega
        refine ⟨[Z x, I .i64 ((k + 1 : Nat) : Int)], u, q - 1, ?_, by omega, k + 1, by omega, rfl, rfl, ?_⟩
        · unfold f18_l1
          generalize ((k + 1 : Nat) : Int) = K1 at *
          generalize ((k : Nat) : Int) = K at *
          generalize ((l.length : Nat) : Int) = L at *
          generalize ((l[k].x.length : Nat) : Int) = X at *
          simp [hll, c0, ix, fa, l7, sl, c1, w1]
        · rw [List.take_add_one, hg]
          simp only [Option.toList, List.all_append, ha, Bool.true_and, List.all_cons, List.all_nil, Bool.and_true]
          exact decide_eq_true hx
      · right
        have c1 : (400 : Int) < ((l[k].x.length : Nat) : Int) := by omega
        refine ⟨.ret (B false), u, ?_, (fun v hv => by cases hv), .inr ⟨rfl, ?_⟩, rfl⟩
        · unfold f18_l1
          generalize ((k : Nat) : Int) = K at *
          generalize ((l.length : Nat) : Int) = L at *
          generalize ((l[k].x.length : Nat) : Int) = X at *
          simp [hll, c0, ix, fa, l7, sl, c1]
        · rw [List.all_eq_false]
          exact ⟨l[k], List.getElem_mem hkl, by simpa using hx⟩
    · right
      have hk' : k = l.length := by omega
      subst hk'
      rw [List.take_length] at ha
      refine ⟨.exit 0 [Z x], u, ?_, (fun v hv => by cases hv), .inl ⟨rfl, ha⟩, rfl⟩
      unfold f18_l1
      simp [hll]) (l.length + 8) l.length [Z x, I .i64 0] s ⟨0, rfl, rfl, rfl, by simp⟩ (by omega)
  rcases hj with ⟨rfl, ha⟩ | ⟨rfl, ha⟩
  · have hd : decide (((l.length : Nat) : Int) ≤ 60) = decide (l.length ≤ 60) := decide_eq_decide.2 (by omega)
    have hf : fewP l = decide (l.length ≤ 60) := by unfold fewP; rw [ha]; rfl
    rw [hf, ← hd]
    generalize ((l.length : Nat) : Int) = L at *
    simp [lp, hll]
  · have hf : fewP l = false := by unfold fewP; rw [ha]; rfl
    rw [hf]
    simp [lp]

theorem KS_str {y : S} (h : KS .str y) : ∃ b, y = .str b := by
  cases y <;> first | exact ⟨_, rfl⟩ | exact h.elim

theorem ent_row {r : List S} (h : All2 KS [.int .i64, .int .i64, .int .i64, .int .i64, .int .i64, .int .i64, .int .u32, .str] r) : ∃ e : Ent, r = cE e ∧ EWf e := by
  cases h with
  | cons h1 h =>
    cases h with
    | cons h2 h =>
      cases h with
      | cons h3 h =>
        cases h with
        | cons h4 h =>
          cases h with
          | cons h5 h =>
            cases h with
            | cons h6 h =>
              cases h with
              | cons h7 h =>
                cases h with
                | cons h8 h =>
                  cases h
                  obtain ⟨a1, rfl, _⟩ := KS.int h1
                  obtain ⟨a2, rfl, _⟩ := KS.int h2
                  obtain ⟨a3, rfl, _⟩ := KS.int h3
                  obtain ⟨a4, rfl, _⟩ := KS.int h4
                  obtain ⟨a5, rfl, _⟩ := KS.int h5
                  obtain ⟨a6, rfl, _⟩ := KS.int h6
                  obtain ⟨a7, rfl, w⟩ := KS.int h7
                  obtain ⟨a8, rfl⟩ := KS_str h8
                  have w2 : IntKind.u32.min ≤ a7 ∧ a7 ≤ IntKind.u32.max := by simpa [Lit.wf] using w
                  have w3 : (0 : Int) ≤ a7 ∧ a7 ≤ 4294967295 := w2
                  exact ⟨⟨a1, a2, a3, a4, a5, a6, a7, a8⟩, rfl, w3.1, by show a7 < 4294967296; omega⟩

theorem ent_rows : ∀ {rows : List (List S)}, (∀ r ∈ rows, All2 KS [.int .i64, .int .i64, .int .i64, .int .i64, .int .i64, .int .i64, .int .u32, .str] r) → ∃ l : List Ent, rows = l.map cE ∧ ∀ e ∈ l, EWf e
  | [], _ => ⟨[], rfl, fun e h => by cases h⟩
  | r :: rows, h => by
    obtain ⟨e, rfl, w⟩ := ent_row (h r List.mem_cons_self)
    obtain ⟨l, rfl, ws⟩ := ent_rows (rows := rows) fun q hq => h q (List.mem_cons_of_mem _ hq)
    exact ⟨e :: l, rfl, fun q hq => by
      rcases List.mem_cons.1 hq with rfl | hq
      · exact w
      · exact ws q hq⟩

theorem slEnts {a : T} {c : Nat} {rows : List (List S)} (ha : SlOf a c rows) (hr : ∀ r ∈ rows, All2 KS [.int .i64, .int .i64, .int .i64, .int .i64, .int .i64, .int .i64, .int .u32, .str] r) (hb : s.get c = some (argBlk rows.flatten)) :
    ∃ x, ∃ l : List Ent, a = Z x ∧ RE s x l ∧ (∀ d, own x = some d → d = c) ∧ (∀ e ∈ l, EWf e) ∧ l.length = rows.length := by
  obtain ⟨l, h1, h2⟩ := ent_rows hr
  obtain ⟨x, rfl, h3, h4⟩ := slRd ha (e := 8) (by decide) (fun r h => (forall2_length (hr r h)).symm) hb
  refine ⟨x, l, rfl, ?_, h4, h2, by rw [h1, List.length_map]⟩
  rw [h1, List.length_map] at h3
  exact h3
end
end Go.Proofs.YtlhbidbdmdcdeaaGreatDoor

/-
  LogAsks, run. No conditions but those named in each line.
-/
namespace Go.Proofs.YtlhbidbdmdcdeaaGreatDoor
open Go Go.Abs Go.Abs.F
set_option linter.unusedVariables false

theorem fewP_of {l : List Ent} (h : fewP l = true) : l.length ≤ 60 ∧ ∀ e ∈ l, e.x.length ≤ 400 := by
  unfold fewP at h
  rw [Bool.and_eq_true, decide_eq_true_eq, List.all_eq_true] at h
  exact ⟨h.2, fun e he => by simpa using h.1 e he⟩

theorem readP_le (bs : Bs) : (readP bs).1.length ≤ 2000 := by
  suffices ∀ f at_ acc, (readL bs f at_ acc).1.length ≤ acc.length + f from by have := this 2000 0 []; rw [List.length_nil, Nat.zero_add] at this; exact this
  intro f
  induction f with
  | zero => intro at_ acc; exact Nat.le_refl _
  | succ f ih =>
    intro at_ acc
    unfold readL
    split
    · simp
    · split
      · simp
      · have := ih ‹Nat› (acc ++ [‹Ent›])
        simp at this
        omega
theorem bytes_nils (g : Mem) : aBytesStr (Z .nils) g = some (Z (.str [])) := by simp [aBytesStr, aSrc, toBytes]

section
variable {s : St} {x y z : S} {l m : List Ent} {bs : Bs}

set_option maxHeartbeats 4000000 in
theorem asks_run (d : Nat) (wf : s.wf) (ra : RE s x l) (oa : ∀ c, own x = some c → c < s.size) (wa : ∀ e ∈ l, EWf e) (la : l.length < 9223372036854775808) (rb : RE s y m) (ob : ∀ c, own y = some c → c < s.size) (wb : ∀ e ∈ m, EWf e) (lb : m.length < 9223372036854775808)
    (rc : RB s z bs) (oc : ∀ c, own z = some c → c < s.size) : ∃ t, R (d + 13) 4 [Z x, Z y, Z z] s = some (B true, t) := by
  rw [f4_run]
  unfold f4
  have k1 := few_run (d + 11) ra la
  have k2 := few_run (d + 11) rb lb
  have tl := fun st => told10_run (d + 11) st
  have hzl := rc.lenB
  simp only [Nat.add_assoc, Nat.reduceAdd] at k1 k2 tl
  cases hf1 : fewP l with
  | false =>
    rw [hf1] at k1
    refine ⟨s, ?_⟩
    generalize R (d + 12) = r at *
    simp [k1, gtt, tl]
  | true =>
    rw [hf1] at k1
    cases hf2 : fewP m with
    | false =>
      rw [hf2] at k2
      refine ⟨s, ?_⟩
      generalize R (d + 12) = r at *
      simp [k1, k2, gtt, tl]
    | true =>
      rw [hf2] at k2
      by_cases hb : bs.length ≤ 400
      · have c1 : ¬ (400 : Int) < ((bs.length : Nat) : Int) := by omega
        obtain ⟨l60, lx⟩ := fewP_of hf1
        obtain ⟨m60, mx⟩ := fewP_of hf2
        obtain ⟨yA, s4, e4, f4⟩ := all_run (d + 1) wf ra oa wa (by omega)
        have g4 := f4.gr
        obtain ⟨s5, e5, g5⟩ := rall_run (d + 5) g4.wf (ra.gr oa g4) (fun c hc => Nat.lt_of_lt_of_le (oa c hc) g4.2.1) wa (fun e he => by have := lx e he; omega) (by omega)
        have g15 := g4.trans g5
        obtain ⟨yR, s6, e6, f6⟩ := read_run' (d + 1) g5.wf (rc.gr oc g15) (fun c hc => Nat.lt_of_lt_of_le (oc c hc) g15.2.1) (by omega)
        have g16 := g15.trans f6.gr
        have bz : aBytesStr (Z z) s6.get = some (Z (.str bs)) := RB.str (rc.gr oc g16)
        obtain ⟨yV, s7, e7, f7⟩ := rread_run (b := bs) (d + 5) f6.gr.wf (by omega)
        have g17 := g16.trans f7.gr
        simp only [Nat.add_assoc, Nat.reduceAdd] at e4 e5 e6 e7
        simp only [resA, resT, resR] at e4 e5 e6 e7
        have hll := (ra.gr oa g17).lens
        obtain ⟨j, τ, lp, hj, gτ⟩ := loops_inv (f := f4_l1 (R (d + 12)) 8192) (fun q v u => ∃ k : Nat, q + k = l.length ∧ v = [Z x, Z y, Z yA, I .i64 (allP l).2, Z (.str (allP l).1), I .i64 (allP l).2, Z yR, I .i64 ((readP bs).2 : Nat), Z yV, I .i64 ((readP bs).2 : Nat), I .i64 (k : Nat)] ∧ Gr s7 u)
          (fun j u => j = .exit 0 [Z x, Z y, Z yA, I .i64 (allP l).2, Z (.str (allP l).1), I .i64 (allP l).2, Z yR, I .i64 ((readP bs).2 : Nat), Z yV, I .i64 ((readP bs).2 : Nat)] ∧ Gr s7 u) (by
          rintro q v u ⟨k, hk, rfl, gu⟩
          have gsu := g17.trans gu
          have hlu := (ra.gr oa gsu).lens
          by_cases hkl : k < l.length
          · left
            have hg : l[k]? = some l[k] := List.getElem?_eq_getElem hkl
            have hmem : l[k] ∈ l := List.getElem_mem hkl
            have c0 : ((k : Nat) : Int) < ((l.length : Nat) : Int) := by omega
            have w1 : IntKind.i64.wrap ((k : Int) + 1) = ((k + 1 : Nat) : Int) := by rw [wrap_in _ (by omega) (by omega)]; omega
            obtain ⟨p, ix, ld⟩ := RE.atE (ra.gr oa gsu) (n := ((k : Nat) : Int)) rfl hg
            obtain ⟨yf, u1, a1, ga1, fb1⟩ := frame_run (d + 2) gu.wf l[k] (wa _ hmem)
            obtain ⟨p2, ix2, ld2⟩ := RE.atE (ra.gr oa (gsu.trans ga1)) (n := ((k : Nat) : Int)) rfl hg
            obtain rfl : p2 = p := Option.some.inj (ix2.symm.trans ix)
            obtain ⟨u2, a2, ga2⟩ := rframe_run (d + 6) ga1.wf l[k] (wa _ hmem) (by have := lx _ hmem; omega)
            simp only [Nat.add_assoc, Nat.reduceAdd] at a1 a2
            refine ⟨[Z x, Z y, Z yA, I .i64 (allP l).2, Z (.str (allP l).1), I .i64 (allP l).2, Z yR, I .i64 ((readP bs).2 : Nat), Z yV, I .i64 ((readP bs).2 : Nat), I .i64 ((k + 1 : Nat) : Int)], u2, q - 1, ?_, by omega, k + 1, by omega, rfl, gu.trans (ga1.trans ga2)⟩
            unfold f4_l1
            clear lx mx wa wb hg hmem
            cases hfe : frameE l[k] with
            | none =>
              rw [hfe] at a1 a2
              simp only [resF, resS] at a1 a2
              have nq := neq_str [] []
              rw [decide_eq_true rfl] at nq
              have bn := bytes_nils u2.get
              generalize ((k + 1 : Nat) : Int) = K1 at *
              generalize ((k : Nat) : Int) = K at *
              generalize ((l.length : Nat) : Int) = L at *
              generalize (((readP bs).2 : Nat) : Int) = RP at *
              generalize (allP l).2 = AC at *
              generalize (allP l).1 = AB at *
              generalize R (d + 12) = r at *
              simp [hlu, c0, ix, ld, a1, aExtract, ix2, ld2, a2, bn, nq, w1]
            | some fb =>
              rw [hfe] at a1 a2
              simp only [resF, resS] at a1 a2
              have bf : aBytesStr (Z yf) u2.get = some (Z (.str fb)) := RB.str ((fb1 _ hfe).gr' ga2).rd
              have nq := neq_str fb fb
              rw [decide_eq_true rfl] at nq
              generalize ((k + 1 : Nat) : Int) = K1 at *
              generalize ((k : Nat) : Int) = K at *
              generalize ((l.length : Nat) : Int) = L at *
              generalize (((readP bs).2 : Nat) : Int) = RP at *
              generalize (allP l).2 = AC at *
              generalize (allP l).1 = AB at *
              generalize R (d + 12) = r at *
              simp [hlu, c0, ix, ld, a1, aExtract, ix2, ld2, a2, bf, nq, w1]
          · right
            have c0 : ¬ ((k : Nat) : Int) < ((l.length : Nat) : Int) := by omega
            refine ⟨_, u, ?_, (fun v hv => by cases hv), rfl, gu⟩
            unfold f4_l1
            generalize ((k : Nat) : Int) = K at *
            generalize ((l.length : Nat) : Int) = L at *
            simp [hlu, c0]) 8192 l.length [Z x, Z y, Z yA, I .i64 (allP l).2, Z (.str (allP l).1), I .i64 (allP l).2, Z yR, I .i64 ((readP bs).2 : Nat), Z yV, I .i64 ((readP bs).2 : Nat), I .i64 0] s7 ⟨0, rfl, rfl, Gr.refl f7.gr.wf⟩ (by omega)
        subst hj
        have g1τ := g17.trans gτ
        have rA : aBytesStr (Z yA) τ.get = some (Z (.str (allP l).1)) := RB.str (f4.gr' ((g5.trans f6.gr).trans (f7.gr.trans gτ))).rd
        have q1 := eql_str (allP l).1 (allP l).1
        rw [decide_eq_true rfl] at q1
        have rR : RE τ yR (readP bs).1 := (f6.gr' (f7.gr.trans gτ)).rd
        have rV : RE τ yV (readP bs).1 := (f7.gr' gτ).rd
        have a1 := rsame_run (d + 9) gτ.wf rR rV (by have := readP_le bs; omega)
        rw [decide_eq_true rfl] at a1
        have rx := ra.gr oa g1τ
        have ry := rb.gr ob g1τ
        have ox : ∀ c, own x = some c → c < τ.size := fun c hc => Nat.lt_of_lt_of_le (oa c hc) g1τ.2.1
        have oy : ∀ c, own y = some c → c < τ.size := fun c hc => Nat.lt_of_lt_of_le (ob c hc) g1τ.2.1
        obtain ⟨t1, a2, h2⟩ := front_run (d + 9) gτ.wf rx ox ry oy (by omega)
        have a3 := rfront_run (d + 10) h2.wf (rx.gr ox h2) (ry.gr oy h2) (by omega)
        obtain ⟨t2, a4, h4⟩ := meet_run (d + 10) h2.wf (rx.gr ox h2) (fun c hc => Nat.lt_of_lt_of_le (ox c hc) h2.2.1) (ry.gr oy h2) (fun c hc => Nat.lt_of_lt_of_le (oy c hc) h2.2.1) (by omega)
        have h24 := h2.trans h4
        have a5 := rmeet_run (d + 11) h4.wf (rx.gr ox h24) (ry.gr oy h24) (by omega)
        simp only [Nat.add_assoc, Nat.reduceAdd] at a1 a2 a3 a4 a5
        refine ⟨t2, ?_⟩
        clear wa wb lx mx
        generalize decide (meetP l m = l.length) = FD at *
        generalize ((meetP l m : Nat) : Int) = MM at *
        generalize (((readP bs).2 : Nat) : Int) = RP at *
        generalize (allP l).2 = AC at *
        generalize (allP l).1 = AB at *
        generalize ((bs.length : Nat) : Int) = BL at *
        generalize R (d + 12) = r at *
        simp [k1, k2, hzl, c1, e4, aExtract, e5, e6, bz, e7, lp, tl, rA, q1, a1, a2, a3, a4, a5]
      · have c1 : (400 : Int) < ((bs.length : Nat) : Int) := by omega
        refine ⟨s, ?_⟩
        generalize ((bs.length : Nat) : Int) = BL at *
        generalize R (d + 12) = r at *
        simp [k1, k2, hzl, c1, tl]
end
end Go.Proofs.YtlhbidbdmdcdeaaGreatDoor

/-
  Functions of the library in this program, as the kit lays them. No conditions.
-/
namespace Go.Proofs
open Go.Shelf
def Tryz.lays156_ren : Go.Shelf.Ren := ⟨fun | 156 => 79 | 165 => 93 | 166 => 94 | 169 => 95 | 240 => 106 | 241 => 107 | 276 => 118 | 277 => 119 | n => n, fun | 31 => 49 | 9 => 9 | 3 => 3 | 4 => 4 | 0 => 0 | 20 => 20 | 72 => 128 | 76 => 132 | 70 => 126 | 37 => 27 | 75 => 131 | 127 => 142 | 164 => 152 | 5 => 5 | 80 => 134 | n => n, fun | n => n⟩
theorem Tryz.lays156 : Go.Proofs.Lays.n156 Tryz.prog Tryz.lays156_ren := {
  mixed := by kernel_rfl
  f156 := Tryz.func79.trans (congrArg some (by kernel_rfl))
  f165 := Tryz.func93.trans (congrArg some (by kernel_rfl))
  f166 := Tryz.func94.trans (congrArg some (by kernel_rfl))
  f169 := Tryz.func95.trans (congrArg some (by kernel_rfl))
  f240 := Tryz.func106.trans (congrArg some (by kernel_rfl))
  f241 := Tryz.func107.trans (congrArg some (by kernel_rfl))
  f276 := Tryz.func118.trans (congrArg some (by kernel_rfl))
  f277 := Tryz.func119.trans (congrArg some (by kernel_rfl))
  t0 := Tryz.underlying0
  a0 := Tryz.isAgg0
  z0 := Tryz.sizeOf0
  v0 := Tryz.zeroValue0
  t3 := Tryz.underlying3
  a3 := Tryz.isAgg3
  z3 := Tryz.sizeOf3
  v3 := Tryz.zeroValue3
  t4 := Tryz.underlying4
  a4 := Tryz.isAgg4
  z4 := Tryz.sizeOf4
  v4 := Tryz.zeroValue4
  t9 := Tryz.underlying9
  a9 := Tryz.isAgg9
  z9 := Tryz.sizeOf9
  v9 := Tryz.zeroValue9
  t20 := Tryz.underlying20
  a20 := Tryz.isAgg20
  z20 := Tryz.sizeOf20
  v20 := Tryz.zeroValue20
  t31 := Tryz.underlying49
  a31 := Tryz.isAgg49
  z31 := Tryz.sizeOf49
  v31 := Tryz.zeroValue49
  t37 := Tryz.underlying27
  a37 := Tryz.isAgg27
  z37 := Tryz.sizeOf27
  v37 := Tryz.zeroValue27
  t70 := Tryz.underlying126
  a70 := Tryz.isAgg126
  z70 := Tryz.sizeOf126
  v70 := Tryz.zeroValue126
  t72 := Tryz.underlying128
  a72 := Tryz.isAgg128
  z72 := Tryz.sizeOf128
  v72 := Tryz.zeroValue128
  t75 := Tryz.underlying131
  a75 := Tryz.isAgg131
  z75 := Tryz.sizeOf131
  v75 := Tryz.zeroValue131
  t76 := Tryz.underlying132
  a76 := Tryz.isAgg132
  z76 := Tryz.sizeOf132
  v76 := Tryz.zeroValue132
  t127 := Tryz.underlying142
  a127 := Tryz.isAgg142
  z127 := Tryz.sizeOf142
  v127 := Tryz.zeroValue142
  t164 := Tryz.underlying152
  a164 := Tryz.isAgg152
  z164 := Tryz.sizeOf152
  v164 := Tryz.zeroValue152 }
theorem Tryz.Builder_Extra_156 : Builder.Extra Tryz.prog Tryz.lays156_ren := {
  sizeBuilder := by kernel_rfl
  liesBuilder := by kernel_rfl
  t5 := Tryz.underlying5
  a5 := Tryz.isAgg5
  z5 := Tryz.sizeOf5
  v5 := Tryz.zeroValue5
  infoByte := by kernel_rfl
  cellsByte := by kernel_rfl
  sizeByte := by kernel_rfl
  neB5 := by decide }
open Go.RowKit in
/-- No element: the empty string; the world is as it was. (Whatever the slice's address and capacity: a nil slice too.) (LAID: no walk: one application.) -/
theorem Tryz.strings_Join_none (a : Option Addr) (c : Nat) (sep : ByteArray) (w : World) :
    Calls Tryz.prog 79 #[.slice a 0 c, .string sep] w fun e w' => e = .returned (.string ⟨#[]⟩) ∧ w' = w := Any.strings_Join_none Tryz.lays156 Tryz.Builder_Extra_156 a c sep w
open Go.RowKit in
/-- strings.Join: "Join concatenates the elements of its first argument to create a single string. The separator string sep is placed between elements in the resulting string.": HOWEVER MANY ELEMENTS. Below the heap's end the world is as it was. (LAID: no walk: one application.) -/
theorem Tryz.strings_Join (bk o c : Nat) (xs : List ByteArray) (sep : ByteArray) (w : World) (hcells : ∀ (j : Nat) x, xs[j]? = some x → w.cell? ⟨bk, o + j, none⟩ = some (.string x)) (hbk : bk < w.heap.size) (hN : xs.length ≤ 140737488355328) (hcap : xs.length ≤ c) (hlen : (Lib.join (xs.map (·.data.toList)) sep.data.toList).length ≤ 140737488355328) :
    Calls Tryz.prog 79 #[.slice (some ⟨bk, o, none⟩) xs.length c, .string sep] w fun e w' => e = .returned (.string ⟨(Lib.join (xs.map (·.data.toList)) sep.data.toList).toArray⟩) ∧ Below w.heap.size w w' := Any.strings_Join Tryz.lays156 Tryz.Builder_Extra_156 bk o c xs sep w hcells hbk hN hcap hlen
def Tryz.lays219_ren : Go.Shelf.Ren := ⟨fun | 219 => 105 | 217 => 114 | 225 => 115 | 224 => 116 | 267 => 117 | 266 => 130 | 314 => 131 | n => n, fun | 9 => 9 | 3 => 3 | 4 => 4 | 5 => 5 | 46 => 22 | 146 => 163 | 51 => 23 | n => n, fun | 1 => 0 | n => n⟩
theorem Tryz.lays219 : Go.Proofs.Lays.n219 Tryz.prog Tryz.lays219_ren := {
  mixed := by kernel_rfl
  f217 := Tryz.func114.trans (congrArg some (by kernel_rfl))
  f219 := Tryz.func105.trans (congrArg some (by kernel_rfl))
  f224 := Tryz.func116.trans (congrArg some (by kernel_rfl))
  f225 := Tryz.func115.trans (congrArg some (by kernel_rfl))
  f266 := Tryz.func130.trans (congrArg some (by kernel_rfl))
  f267 := Tryz.func117.trans (congrArg some (by kernel_rfl))
  f314 := Tryz.func131.trans (congrArg some (by kernel_rfl))
  t3 := Tryz.underlying3
  a3 := Tryz.isAgg3
  z3 := Tryz.sizeOf3
  v3 := Tryz.zeroValue3
  t4 := Tryz.underlying4
  a4 := Tryz.isAgg4
  z4 := Tryz.sizeOf4
  v4 := Tryz.zeroValue4
  t5 := Tryz.underlying5
  a5 := Tryz.isAgg5
  z5 := Tryz.sizeOf5
  v5 := Tryz.zeroValue5
  t9 := Tryz.underlying9
  a9 := Tryz.isAgg9
  z9 := Tryz.sizeOf9
  v9 := Tryz.zeroValue9
  t46 := Tryz.underlying22
  a46 := Tryz.isAgg22
  z46 := Tryz.sizeOf22
  v46 := Tryz.zeroValue22
  t51 := Tryz.underlying23
  a51 := Tryz.isAgg23
  z51 := Tryz.sizeOf23
  v51 := Tryz.zeroValue23
  t146 := Tryz.underlying163
  a146 := Tryz.isAgg163
  z146 := Tryz.sizeOf163
  v146 := Tryz.zeroValue163
  g1 := by kernel_rfl }
open Go.RowKit Go.Lib in
/-- internal/stringslite.Index (what strings.Index calls) AT A substr OF ONE BYTE c: IT RETURNS 'Lib.indexByte s c'; the world is as it was. (LAID: no walk: one application.) -/
theorem Tryz.stringslite_Index_one (s : ByteArray) (c : UInt8) (w : World) :
    Calls Tryz.prog 105 #[.string s, .string ⟨#[c]⟩] w fun e w' => e = .returned (.int .i64 (Lib.indexByte s.data.toList c)) ∧ w' = w := Any.stringslite_Index_one Tryz.lays219 s c w
def Tryz.lays143_ren : Go.Shelf.Ren := ⟨fun | 143 => 104 | 219 => 105 | 217 => 114 | 225 => 115 | 224 => 116 | 267 => 117 | 266 => 130 | 314 => 131 | n => n, fun | 9 => 9 | 3 => 3 | 4 => 4 | 5 => 5 | 46 => 22 | 146 => 163 | 51 => 23 | n => n, fun | 1 => 0 | n => n⟩
theorem Tryz.lays143 : Go.Proofs.Lays.n143 Tryz.prog Tryz.lays143_ren := {
  mixed := by kernel_rfl
  f143 := Tryz.func104.trans (congrArg some (by kernel_rfl))
  f217 := Tryz.func114.trans (congrArg some (by kernel_rfl))
  f219 := Tryz.func105.trans (congrArg some (by kernel_rfl))
  f224 := Tryz.func116.trans (congrArg some (by kernel_rfl))
  f225 := Tryz.func115.trans (congrArg some (by kernel_rfl))
  f266 := Tryz.func130.trans (congrArg some (by kernel_rfl))
  f267 := Tryz.func117.trans (congrArg some (by kernel_rfl))
  f314 := Tryz.func131.trans (congrArg some (by kernel_rfl))
  t3 := Tryz.underlying3
  a3 := Tryz.isAgg3
  z3 := Tryz.sizeOf3
  v3 := Tryz.zeroValue3
  t4 := Tryz.underlying4
  a4 := Tryz.isAgg4
  z4 := Tryz.sizeOf4
  v4 := Tryz.zeroValue4
  t5 := Tryz.underlying5
  a5 := Tryz.isAgg5
  z5 := Tryz.sizeOf5
  v5 := Tryz.zeroValue5
  t9 := Tryz.underlying9
  a9 := Tryz.isAgg9
  z9 := Tryz.sizeOf9
  v9 := Tryz.zeroValue9
  t46 := Tryz.underlying22
  a46 := Tryz.isAgg22
  z46 := Tryz.sizeOf22
  v46 := Tryz.zeroValue22
  t51 := Tryz.underlying23
  a51 := Tryz.isAgg23
  z51 := Tryz.sizeOf23
  v51 := Tryz.zeroValue23
  t146 := Tryz.underlying163
  a146 := Tryz.isAgg163
  z146 := Tryz.sizeOf163
  v146 := Tryz.zeroValue163
  g1 := by kernel_rfl }
open Go.RowKit Go.Lib in
/-- strings.Index: "Index returns the index of the first instance of substr in s, or -1 if substr is not present in s.": AT A substr OF ONE BYTE c: IT RETURNS 'Lib.indexByte s c'; the world is as it was. (LAID: no walk: one application.) -/
theorem Tryz.strings_Index_one (s : ByteArray) (c : UInt8) (w : World) :
    Calls Tryz.prog 104 #[.string s, .string ⟨#[c]⟩] w fun e w' => e = .returned (.int .i64 (Lib.indexByte s.data.toList c)) ∧ w' = w := Any.strings_Index_one Tryz.lays143 s c w
def Tryz.lays138_ren : Go.Shelf.Ren := ⟨fun | 138 => 103 | 195 => 111 | 218 => 113 | 143 => 104 | 219 => 105 | 217 => 114 | 225 => 115 | 224 => 116 | 267 => 117 | 266 => 130 | 314 => 131 | n => n, fun | 9 => 9 | 3 => 3 | 4 => 4 | 5 => 5 | 0 => 0 | 46 => 22 | 146 => 163 | 51 => 23 | n => n, fun | 1 => 0 | n => n⟩
theorem Tryz.lays138 : Go.Proofs.Lays.n138 Tryz.prog Tryz.lays138_ren := {
  mixed := by kernel_rfl
  f138 := Tryz.func103.trans (congrArg some (by kernel_rfl))
  f143 := Tryz.func104.trans (congrArg some (by kernel_rfl))
  f195 := Tryz.func111.trans (congrArg some (by kernel_rfl))
  f217 := Tryz.func114.trans (congrArg some (by kernel_rfl))
  f218 := Tryz.func113.trans (congrArg some (by kernel_rfl))
  f219 := Tryz.func105.trans (congrArg some (by kernel_rfl))
  f224 := Tryz.func116.trans (congrArg some (by kernel_rfl))
  f225 := Tryz.func115.trans (congrArg some (by kernel_rfl))
  f266 := Tryz.func130.trans (congrArg some (by kernel_rfl))
  f267 := Tryz.func117.trans (congrArg some (by kernel_rfl))
  f314 := Tryz.func131.trans (congrArg some (by kernel_rfl))
  t0 := Tryz.underlying0
  a0 := Tryz.isAgg0
  z0 := Tryz.sizeOf0
  v0 := Tryz.zeroValue0
  t3 := Tryz.underlying3
  a3 := Tryz.isAgg3
  z3 := Tryz.sizeOf3
  v3 := Tryz.zeroValue3
  t4 := Tryz.underlying4
  a4 := Tryz.isAgg4
  z4 := Tryz.sizeOf4
  v4 := Tryz.zeroValue4
  t5 := Tryz.underlying5
  a5 := Tryz.isAgg5
  z5 := Tryz.sizeOf5
  v5 := Tryz.zeroValue5
  t9 := Tryz.underlying9
  a9 := Tryz.isAgg9
  z9 := Tryz.sizeOf9
  v9 := Tryz.zeroValue9
  t46 := Tryz.underlying22
  a46 := Tryz.isAgg22
  z46 := Tryz.sizeOf22
  v46 := Tryz.zeroValue22
  t51 := Tryz.underlying23
  a51 := Tryz.isAgg23
  z51 := Tryz.sizeOf23
  v51 := Tryz.zeroValue23
  t146 := Tryz.underlying163
  a146 := Tryz.isAgg163
  z146 := Tryz.sizeOf163
  v146 := Tryz.zeroValue163
  g1 := by kernel_rfl }
open Go.RowKit Go.Lib in
/-- strings.Count AT A substr OF ONE BYTE ('hp'): "Count counts the number of non-overlapping instances of substr in s.": IT RETURNS 'Lib.countByte s (that byte)'; the world is as it was. ✋ NO CONTRACT HERE YET at an empty substr (utf8.RuneCountInString) or at a longer one (a loop over strings.Index). (LAID: no walk: one application.) -/
theorem Tryz.strings_Count_one (s : ByteArray) (c : UInt8) (w : World) :
    Calls Tryz.prog 103 #[.string s, .string ⟨#[c]⟩] w fun e w' => e = .returned (.int .i64 (Lib.countByte s.data.toList c)) ∧ w' = w := Any.strings_Count_one Tryz.lays138 s c w
end Go.Proofs

/-
  slices.Delete of one element at a slice of unknown capacity. No conditions.
-/
namespace Go.Proofs.YtlhbidbdmdcdeaaGreatDoor
open Go Go.Abs Go.Abs.F
set_option linter.unusedVariables false
abbrev zI : List S := [.int .i64 0, .int .i64 0, .int .i64 0, .int .i64 0, .int .u32 0]

theorem aBounds_lhm {len cap lo hi m : Nat} (h : lo ≤ hi) (k : hi ≤ m) (l : m ≤ cap) : aBounds len cap (some (I .i64 lo)) (some (I .i64 hi)) (some (I .i64 m)) = some (lo, hi, m) := by
  have e : ∀ {a b : Nat}, a ≤ b → aBnd (I .i64 a) b = some a := fun {a b} h => by
    have h1 : (a : Int) ≤ (b : Int) := by omega
    simp [aBnd, h]
  delta aBounds
  dsimp only
  rw [e l]
  dsimp only
  rw [e k]
  dsimp only
  rw [e h]

theorem del_sound : CallSound Tryz.prog (delP 75 5 zI) := by
  refine grown_sound (plain_sound Tryz.prog 8 1) ?_
  intro f ts σ r h
  unfold delP at h
  split at h
  · cases h
  · rename_i hf
    have hf' := Nat.eq_of_beq_eq_true hf
    subst hf'
    split at h
    · rename_i i o n q a b
      split at h
      · rename_i vs hb
        split at h
        · rename_i hd
          have hd' := of_decide_eq_true hd
          obtain ⟨rfl, ha, rfl, hbn, hn, hv⟩ := hd'
          cases h
          obtain ⟨k, rfl⟩ : ∃ k : Nat, a = k := ⟨a.toNat, by omega⟩
          refine ⟨i, o, n, 5, n - 1, _, _, _, rfl, hb, rfl, fun c hc => ?_⟩
          have hkn : k + 1 ≤ n := by omega
          rw [Int.toNat_natCast]
          rw [(runQ_body rfl Tryz.func75 (by kernel_rfl)).trans (f75_eq _ _ _ _ _ _)]
          unfold f75
          have ek : ((k : Nat) : Int) + 1 = ((k + 1 : Nat) : Int) := by omega
          rw [ek]
          have p1 : aPieceSl 5 (Z (.sl i o n (.known c))) (some (I .i64 ((k : Nat) : Int))) (some (I .i64 ((k + 1 : Nat) : Int))) (some (I .i64 ((n : Nat) : Int))) = some (Z (.sl i (if n = k then o else o + k * 5) (k + 1 - k) (.known (n - k)))) := by
            simp only [aPieceSl, aBounds_lhm (show k ≤ k + 1 by omega) hkn hc]
          have p2 : aPieceSl 5 (Z (.sl i o n (.known c))) none (some (I .i64 ((k : Nat) : Int))) none = some (Z (.sl i o k (.known c))) := by
            simp only [aPieceSl, aBounds_hi (show k ≤ c by omega), Nat.zero_mul, Nat.add_zero, ite_self, Nat.sub_zero]
          have p3 : aPieceSl 5 (Z (.sl i o n (.known c))) (some (I .i64 ((k + 1 : Nat) : Int))) none none = some (Z (.sl i (if c = k + 1 then o else o + (k + 1) * 5) (n - (k + 1)) (.known (c - (k + 1))))) := by
            simp only [aPieceSl, aBounds_lo hkn hc]
          have src : aSrc 5 (Z (.sl i (if c = k + 1 then o else o + (k + 1) * 5) (n - (k + 1)) (.known (c - (k + 1))))) σ.get = some (n - (k + 1), (vs.drop (o + (k + 1) * 5)).take ((n - 1 - k) * 5)) := by
            by_cases hz : n - (k + 1) = 0
            · have : n - 1 - k = 0 := by omega
              simp [aSrc, hz, this]
            · have h1 : ¬ c = k + 1 := by omega
              have h2 : o + (k + 1) * 5 + (n - (k + 1)) * 5 ≤ vs.length := by omega
              have h3 : n - 1 - k = n - (k + 1) := by omega
              simp only [aSrc, if_neg hz, if_neg h1, hb, if_pos h2, h3]
          obtain ⟨v1, hv1⟩ : ∃ v1, v1 = setRange vs (o + k * 5) ((vs.drop (o + (k + 1) * 5)).take ((n - 1 - k) * 5)) := ⟨_, rfl⟩
          have hl1 : v1.length = vs.length := by rw [hv1, setRange_length]
          have ap : aAppend 5 40 (Z (.sl i o k (.known c))) (Z (.sl i (if c = k + 1 then o else o + (k + 1) * 5) (n - (k + 1)) (.known (c - (k + 1))))) σ = some (Z (.sl i o (n - 1) (.known c)), σ.set i (.cells true v1)) := by
            have h1 : (n - 1) * 40 ≤ 140737488355328 := by omega
            have h2 : n - 1 ≤ c := by omega
            have h3 : True ∧ o + k * 5 + (n - (k + 1)) * 5 ≤ vs.length := ⟨trivial, by omega⟩
            have h4 : k + (n - (k + 1)) = n - 1 := by omega
            simp only [aAppend, src, if_neg (show ¬ (5 : Nat) = 0 by decide), hb, h4]
            rw [if_pos h1, if_pos h2, if_pos h3, hv1]
          have p4 : aPieceSl 5 (Z (.sl i o (n - 1) (.known c))) (some (I .i64 ((n - 1 : Nat) : Int))) (some (I .i64 ((n : Nat) : Int))) none = some (Z (.sl i (o + (n - 1) * 5) (n - (n - 1)) (.known (c - (n - 1))))) := by
            have h1 : ¬ c = n - 1 := by omega
            simp only [aPieceSl, aBounds_lh (show n - 1 ≤ n by omega) hc, if_neg h1]
          have cl : aClear 5 zI (Z (.sl i (o + (n - 1) * 5) (n - (n - 1)) (.known (c - (n - 1))))) (σ.set i (.cells true v1)) = some (tt, (σ.set i (.cells true v1)).set i (.cells true (setRange v1 (o + (n - 1) * 5) zI))) := by
            have h1 : n - (n - 1) = 1 := by omega
            have h2 : o + (n - 1) * 5 + 1 * 5 ≤ v1.length := by omega
            simp only [aClear, h1, if_neg (show ¬ (1 : Nat) = 0 by decide), St.get_set_same, if_pos h2]
            rfl
          have le1 : aLenSl (Z (.sl i o n (.known c))) = some (I .i64 ((n : Nat) : Int)) := rfl
          have le2 : aLenSl (Z (.sl i o (n - 1) (.known c))) = some (I .i64 ((n - 1 : Nat) : Int)) := rfl
          simp only [zI] at cl ⊢
          clear hc hn hbn hv hkn ha
          have nk : ¬ (((k : Nat) : Int) = ((k + 1 : Nat) : Int)) := by omega
          rw [← hv1]
          generalize ((n - 1 : Nat) : Int) = N1 at *
          generalize ((n : Nat) : Int) = NN at *
          generalize ((k + 1 : Nat) : Int) = K1 at *
          generalize ((k : Nat) : Int) = K at *
          simp only [le1, le2, bd_some, p1, eql_int, decide_eq_false nk, br_false, p2, p3, ap, bd2_some, p4, cl]
        · cases h
      · cases h
    · cases h
end Go.Proofs.YtlhbidbdmdcdeaaGreatDoor
