/-
  Slices of grants: reading all grants of some bytes, copying, comparing. No conditions but those named in each line.
-/
import Derived.Test.YtgecidicpdobfaaDoorGet
namespace Go.Proofs.YtgecidicpdobfaaDoor
open Go Go.Abs Go.Abs.F
set_option linter.unusedVariables false

@[simp] theorem gd_tt (w : Bool) : gd tt w = some false := nz rfl

def cG : List (Nat × Nat) → List S
  | [] => []
  | g :: r => .int .i64 g.1 :: .int .i64 g.2 :: cG r

theorem cG_len : ∀ gs : List (Nat × Nat), (cG gs).length = 2 * gs.length
  | [] => rfl
  | g :: r => by simp [cG, cG_len r]; omega
theorem cG_append : ∀ a b : List (Nat × Nat), cG (a ++ b) = cG a ++ cG b
  | [], b => rfl
  | g :: r, b => by simp [cG, cG_append r b]
theorem cG_get : ∀ (gs : List (Nat × Nat)) (j : Nat) (g : Nat × Nat), gs[j]? = some g → (cG gs)[2 * j]? = some (.int .i64 g.1) ∧ (cG gs)[2 * j + 1]? = some (.int .i64 g.2)
  | [], j, g, h => by simp at h
  | a :: r, 0, g, h => by simp at h; subst h; exact ⟨rfl, rfl⟩
  | a :: r, j + 1, g, h => by
    have := cG_get r j g (by simpa using h)
    rw [show 2 * (j + 1) = 2 * j + 1 + 1 by omega, show 2 * j + 1 + 1 + 1 = (2 * j + 1) + 1 + 1 by omega]
    exact this

section
variable {s t : St} {x y : S} {bs cs : List UInt8} {gs : List (Nat × Nat)}

/-- A slice of grants. -/
def GS (s : St) (x : S) (gs : List (Nat × Nat)) : Prop :=
  (x = .nils ∧ gs = []) ∨ ∃ c rows, x = .sl c 0 gs.length (.grown 2) ∧ gs ≠ [] ∧ s.get c = some (.cells true rows) ∧ 2 * gs.length ≤ rows.length ∧ rows.take (2 * gs.length) = cG gs

theorem GS.len (h : GS s x gs) : aLenSl (Z x) = some (I .i64 gs.length) := by
  rcases h with ⟨rfl, rfl⟩ | ⟨c, rows, rfl, _⟩ <;> rfl
theorem GS.keep (h : GS s x gs) (hk : ∀ c, own x = some c → t.get c = s.get c) : GS t x gs := by
  rcases h with h | ⟨c, rows, rfl, h0, h1, h2, h3⟩
  · exact .inl h
  · exact .inr ⟨c, rows, rfl, h0, by rw [hk c rfl]; exact h1, h2, h3⟩
theorem GS.lt (h : GS s x gs) (wf : s.wf) {c : Nat} (hc : own x = some c) : c < s.size := by
  rcases h with ⟨rfl, rfl⟩ | ⟨c', rows, rfl, h0, h1, _⟩
  · cases hc
  · cases hc; exact wf.lt h1
theorem GS.at (h : GS s x gs) {j : Nat} {n : Int} {g : Nat × Nat} (hn : n = j) (hg : gs[j]? = some g) :
    ∃ c, aIndexSl 2 (Z x) (I .i64 n) = some (Z (.ptr c (j * 2))) ∧ aLoadN 2 (Z (.ptr c (j * 2))) s.get = some (G2 g.1 g.2) ∧ aLoad1 (Z (.ptr c (j * 2))) s.get = some (I .i64 g.1) := by
  have hj := (List.getElem?_eq_some_iff.1 hg).1
  rcases h with ⟨rfl, rfl⟩ | ⟨c, rows, rfl, h0, h1, h2, h3⟩
  · simp at hj
  · obtain ⟨a, b⟩ := cG_get gs j g hg
    rw [← h3, List.getElem?_take_of_lt (by omega)] at a b
    refine ⟨c, by rw [aIndexSl_int hn hj, Nat.zero_add], ?_, ?_⟩
    · have hle : j * 2 + 2 ≤ rows.length := by omega
      simp only [aLoadN, h1, if_pos hle]
      congr 3
      rw [Nat.mul_comm j 2]
      apply List.ext_getElem?
      intro k
      rw [List.getElem?_take]
      by_cases k2 : k < 2
      · rw [if_pos k2, List.getElem?_drop]
        have : k = 0 ∨ k = 1 := by omega
        rcases this with rfl | rfl
        · exact a
        · exact b
      · rw [if_neg k2]
        have : 2 ≤ k := by omega
        simp [this]
    · rw [Nat.mul_comm]
      exact aLoad1_of h1 a

theorem lit2 (s : St) (a b : Int) : aNew s (nSlice 1 (aFill [.int .i64 0, .int .i64 0] [(0, 2, G2 a b)])) = some (Z (.sl s.size 0 1 (.known 1)), s.push (.cells true [.int .i64 a, .int .i64 b])) := by
  simp [aNew, nSlice, aFill, V.cells, setRange]

/-- A grant is appended. -/
theorem GS.app (h : GS s x gs) (wf : s.wf) (hl : gs.length ≤ 10000) (v n : Nat) :
    ∃ x' t, aAppend 2 16 (Z x) (Z (.sl s.size 0 1 (.known 1))) (s.push (.cells true [.int .i64 v, .int .i64 n])) = some (Z x', t) ∧ t.wf ∧ s.size < t.size ∧ GS t x' (gs ++ [(v, n)]) ∧
      (∀ b, b < s.size → own x ≠ some b → t.get b = s.get b) ∧ (own x' = own x ∨ ∃ c, own x' = some c ∧ s.size ≤ c) := by
  have hsrc : aSrc 2 (Z (.sl s.size 0 1 (.known 1))) (s.push (.cells true [.int .i64 v, .int .i64 n])).get = some (1, [.int .i64 v, .int .i64 n]) := by
    simp [aSrc]
  have wf1 := St.wf_push wf (.cells true [S.int .i64 v, S.int .i64 n])
  rcases h with ⟨rfl, rfl⟩ | ⟨c, rows, rfl, h0, h1, h2, h3⟩
  · refine ⟨.sl (s.size + 1) 0 1 (.grown 2), (s.push (.cells true [.int .i64 v, .int .i64 n])).push (.cells true [.int .i64 v, .int .i64 n]), ?_, St.wf_push wf1 _, by simp; omega, .inr ⟨s.size + 1, [.int .i64 v, .int .i64 n], rfl, by simp, ?_, by simp, rfl⟩, fun b hb _ => ?_, .inr ⟨s.size + 1, rfl, by omega⟩⟩
    · unfold aAppend
      rw [hsrc]
      rfl
    · have := St.get_push_same (s.push (.cells true [.int .i64 v, .int .i64 n])) (.cells true [.int .i64 v, .int .i64 n])
      rwa [St.size_push] at this
    · rw [St.get_push_ne _ _ (by simp; omega), St.get_push_ne _ _ (by omega)]
  · have hcl := wf.lt h1
    have hc1 : (s.push (.cells true [.int .i64 v, .int .i64 n])).get c = some (.cells true rows) := by rw [St.get_push_ne _ _ (by omega)]; exact h1
    have hB : 2 = 2 ∧ (gs.length + 1) * 16 ≤ 140737488355328 := ⟨rfl, by omega⟩
    by_cases hf : 0 + (gs.length + 1) * 2 ≤ rows.length
    · refine ⟨.sl c 0 (gs.length + 1) (.grown 2), (s.push (.cells true [.int .i64 v, .int .i64 n])).set c (.cells true (setRange rows (0 + gs.length * 2) [.int .i64 v, .int .i64 n])), ?_, St.wf_set wf1 (by simp; omega) _, by simp, .inr ⟨c, _, by simp, by simp, St.get_set_same _ _ _, by simp; omega, ?_⟩, fun b hb hbc => ?_, .inl rfl⟩
      · unfold aAppend
        rw [hsrc]
        dsimp only
        rw [if_neg (by decide), if_pos hB, if_neg (by decide), hc1]
        dsimp only
        rw [if_pos hf]
      · rw [setRange_eq _ _ _ (by simp; omega), cG_append, ← h3, List.length_append, List.length_singleton]
        rw [show 0 + gs.length * 2 = 2 * gs.length by omega]
        rw [List.append_assoc, List.take_append, List.take_of_length_le (by rw [List.length_take]; omega), List.length_take, Nat.min_eq_left h2]
        rw [show 2 * (gs.length + 1) - 2 * gs.length = 2 by omega]
        rfl
      · have : b ≠ c := fun e => hbc (by rw [e]; rfl)
        rw [St.get_set_ne _ _ this, St.get_push_ne _ _ (by omega)]
    · have hf2 : 0 + gs.length * 2 ≤ rows.length := by omega
      have hg : (((s.push (.cells true [.int .i64 v, .int .i64 n])).set c .dead).push (.cells true (cG gs ++ [.int .i64 v, .int .i64 n]))).get (s.size + 1) = some (.cells true (cG gs ++ [.int .i64 v, .int .i64 n])) := by
        have := St.get_push_same ((s.push (.cells true [.int .i64 v, .int .i64 n])).set c .dead) (.cells true (cG gs ++ [.int .i64 v, .int .i64 n]))
        rwa [St.size_set, St.size_push] at this
      refine ⟨.sl (s.size + 1) 0 (gs.length + 1) (.grown 2), ((s.push (.cells true [.int .i64 v, .int .i64 n])).set c .dead).push (.cells true (cG gs ++ [.int .i64 v, .int .i64 n])), ?_, St.wf_push (St.wf_set wf1 (by simp; omega) _) _, by simp; omega, .inr ⟨s.size + 1, _, by simp, by simp, hg, by simp [cG_len]; omega, ?_⟩, fun b hb hbc => ?_, .inr ⟨_, rfl, by omega⟩⟩
      · unfold aAppend
        rw [hsrc]
        dsimp only
        rw [if_neg (by decide), if_pos hB, if_neg (by decide), hc1]
        dsimp only
        rw [if_neg hf, if_pos hf2, List.drop_zero, Nat.mul_comm gs.length 2, h3, St.size_push]
      · rw [cG_append]
        exact List.take_of_length_le (by simp [cG_len, cG]; omega)
      · have : b ≠ c := fun e => hbc (by rw [e]; rfl)
        rw [St.get_push_ne _ _ (by simp; omega), St.get_set_ne _ _ this, St.get_push_ne _ _ (by omega)]

theorem getL_le (bs : List UInt8) : ∀ (f at_ last : Nat) (acc : List (Nat × Nat)), at_ ≤ bs.length → (getL bs f at_ last acc).2 ≤ bs.length := by
  intro f
  induction f with
  | zero => intro a l acc h; exact h
  | succ f ih =>
    intro a l acc h
    unfold getL
    split
    · exact h
    · rename_i v n e he
      have := oneP_lt he
      split
      · exact h
      · exact ih _ _ _ (by omega)

/-- All grants that bytes begin with. -/
theorem get_run (d : Nat) (wf : s.wf) (h : Rd s x (U bs)) (oc : okCap x) (hx : ∀ c, own x = some c → c < s.size) (hl : bs.length ≤ 400) :
    ∃ y t, R (d + 5) 11 [Z x] s = some (.tup [.s y, .s (.int .i64 (getP bs).2)], t) ∧ Gr s t ∧ GS t y (getP bs).1 ∧ ∀ c, own y = some c → s.size ≤ c ∧ c < t.size := by
  rw [f11_run]
  unfold f11
  have hx' : ∀ c, own x = some c → c < s.size := hx
  obtain ⟨j, τ, lp, y, rfl, hg, hgs, hy⟩ := loops_inv (f := f11_l1 (R (d + 4)) 512) (fun q v u => ∃ (y : S) (acc : List (Nat × Nat)) (a last : Nat), v = [Z x, Z y, I .i64 a] ∧ Gr s u ∧ GS u y acc ∧ (∀ c, own y = some c → s.size ≤ c) ∧ a ≤ bs.length ∧ bs.length < q + a ∧ acc.length ≤ a ∧
        (∀ (g : Nat × Nat), acc[acc.length - 1]? = some g → last = g.1) ∧ (acc = [] → last = 0) ∧ getL bs q a last acc = getP bs)
      (fun j u => ∃ y, j = .exit 0 [Z y, I .i64 (getP bs).2] ∧ Gr s u ∧ GS u y (getP bs).1 ∧ ∀ c, own y = some c → s.size ≤ c) (by
    rintro q v u ⟨y, acc, a, last, rfl, hg, hgs, hy, hab, hqa, hal, hlast, hl0, hres⟩
    cases q with
    | zero => omega
    | succ q =>
      have hu := h.keep (t := u) fun c hc => hg.2.2 c (hx c hc)
      obtain ⟨g1, g2, to, b, u1, e1, k1, hb⟩ := one_run d hg.1 hu oc (fun c hc => Nat.lt_of_lt_of_le (hx c hc) hg.2.1) hl (at_ := a) (by omega)
      have e1' : R (d + 4) 25 [Z x, I .i64 a] u = some (.tup [.agg [.int .i64 g1, .int .i64 g2], .s (.int .i64 to), .s (.bool b)], u1) := e1
      obtain ⟨u2, hu2⟩ : ∃ u2, u2 = u1.push (.cells true [.int .i64 0, .int .i64 0]) := ⟨_, rfl⟩
      have nc := aNew_cells u1 [.int .i64 0, .int .i64 0]
      rw [← hu2] at nc
      have k2 : Gr u1 u2 := by rw [hu2]; exact Gr.push k1.1 _
      have z2 : u2.size = u1.size + 1 := by rw [hu2]; simp
      have hc2 : u2.get u1.size = some (.cells true [.int .i64 0, .int .i64 0]) := by rw [hu2]; exact St.get_push_same _ _
      obtain ⟨u3, hu3⟩ : ∃ u3, u3 = u2.set u1.size (.cells true [.int .i64 g1, .int .i64 g2]) := ⟨_, rfl⟩
      have st3 : aStore 2 (Z (.ptr u1.size 0)) (.v (.agg [.int .i64 g1, .int .i64 g2])) u2 = some (tt, u3) := by rw [hu3]; exact store2 hc2
      have hc3 : u3.get u1.size = some (.cells true [.int .i64 g1, .int .i64 g2]) := by rw [hu3]; exact St.get_set_same _ _ _
      have k3 : Gr u u3 := by
        refine ⟨by rw [hu3]; exact St.wf_set k2.1 (by omega) _, by have := k1.2.1; rw [hu3]; simp; omega, fun c hc => ?_⟩
        have := k1.2.1
        rw [hu3, St.get_set_ne _ _ (by omega), k2.2.2 c (by omega)]
        exact k1.2.2 c hc
      have hgs3 : GS u3 y acc := hgs.keep fun c hc => k3.2.2 c (hgs.lt hg.1 hc)
      have ld1 : aLoad1 (Z (.ptr u1.size 0)) u3.get = some (I .i64 g1) := aLoad1_of hc3 rfl
      have ld2 := load2 hc3
      have hyl := hgs.len
      unfold getL at hres
      rcases hb with ⟨hP, rfl⟩ | ⟨v, n, e, hP, rfl, rfl, rfl, rfl⟩
      · rw [hP] at hres
        right
        refine ⟨.exit 0 [Z y, I .i64 a], u3, ?_, (fun v hv => by cases hv), y, ?_, hg.trans k3, ?_, hy⟩
        · unfold f11_l1
          generalize R (d + 4) = r at e1' ⊢
          simp [e1', aExtract, nc, st3]
        · rw [← hres]
        · rw [← hres]
          exact hgs3
      · rw [hP] at hres
        dsimp only at hres
        have ho := oneP_lt hP
        -- the last one
        have hcmp : (acc = [] ∧ ¬ v ≤ last) ∨ ∃ (g : Nat × Nat) (c : Nat), acc ≠ [] ∧ last = g.1 ∧ aIndexSl 2 (Z y) (I .i64 ((acc.length : Int) - 1)) = some (Z (.ptr c ((acc.length - 1) * 2))) ∧ aLoad1 (Z (.ptr c ((acc.length - 1) * 2))) u3.get = some (I .i64 (g.1 : Nat)) := by
          by_cases hne : acc = []
          · exact .inl ⟨hne, by rw [hl0 hne]; omega⟩
          · have hpos : 0 < acc.length := by cases acc with | nil => exact absurd rfl hne | cons _ _ => simp
            obtain ⟨g, hgg⟩ : ∃ g, acc[acc.length - 1]? = some g := ⟨_, List.getElem?_eq_getElem (by omega)⟩
            obtain ⟨c, q1, q2, q3⟩ := hgs3.at (j := acc.length - 1) (n := (acc.length : Int) - 1) (by omega) hgg
            exact .inr ⟨g, c, hne, hlast g hgg, q1, q3⟩
        have w1 : IntKind.i64.wrap ((acc.length : Int) - 1) = (acc.length : Int) - 1 := wrap_in _ (by omega) (by omega)
        by_cases hle : v ≤ last
        · rw [if_pos hle] at hres
          rcases hcmp with ⟨_, h'⟩ | ⟨g, c, hne, hlg, q1, q2⟩
          · exact absurd hle h'
          right
          have hpos : 0 < acc.length := by cases acc with | nil => exact absurd rfl hne | cons _ _ => simp
          have d1 : ((0 : Int) < (acc.length : Int)) = True := eq_true (by omega)
          have d2 : ((v : Int) ≤ (g.1 : Int)) = True := eq_true (by omega)
          refine ⟨.exit 0 [Z y, I .i64 a], u3, ?_, (fun v hv => by cases hv), y, ?_, hg.trans k3, ?_, hy⟩
          · unfold f11_l1
            generalize R (d + 4) = r at e1' ⊢
            generalize (acc.length : Int) = L at *
            generalize (v : Int) = V1 at *
            simp [e1', aExtract, nc, st3, ld1, hyl, d1, w1, q1, q2, d2]
          · rw [← hres]
          · rw [← hres]
            exact hgs3
        · rw [if_neg hle] at hres
          left
          have nl := lit2 u3 v n
          obtain ⟨y', u4, ap, wf4, z4, hgs4, fr4, oy⟩ := hgs3.app k3.1 (by omega) v n
          have k4 : Gr s u4 := by
            refine ⟨wf4, by have := hg.2.1; have := k3.2.1; omega, fun c hc => ?_⟩
            rw [fr4 c (by have := hg.2.1; have := k3.2.1; omega) (fun e => by have := hy c e; omega), k3.2.2 c (by have := hg.2.1; omega)]
            exact hg.2.2 c hc
          refine ⟨[Z x, Z y', I .i64 (e : Nat)], u4, q, ?_, rfl, y', acc ++ [(v, n)], e, v, rfl, k4, hgs4, fun c hc => ?_, by omega, by omega, by simp; omega, fun g hgg => ?_, by simp, hres⟩
          · unfold f11_l1
            rcases hcmp with ⟨he, _⟩ | ⟨g, c, hne, hlg, q1, q2⟩
            · have d1 : ((0 : Int) < (acc.length : Int)) = False := eq_false (by simp [he])
              generalize R (d + 4) = r at e1' ⊢
              generalize (acc.length : Int) = L at *
              generalize (v : Int) = V1 at *
              generalize (n : Int) = N1 at *
              simp [e1', aExtract, nc, st3, hyl, d1, ld2, nl, ap]
            · have hpos : 0 < acc.length := by cases acc with | nil => exact absurd rfl hne | cons _ _ => simp
              have d1 : ((0 : Int) < (acc.length : Int)) = True := eq_true (by omega)
              have d2 : ((v : Int) ≤ (g.1 : Int)) = False := eq_false (by omega)
              generalize R (d + 4) = r at e1' ⊢
              generalize (acc.length : Int) = L at *
              generalize (v : Int) = V1 at *
              generalize (n : Int) = N1 at *
              simp [e1', aExtract, nc, st3, ld1, hyl, d1, w1, q1, q2, d2, ld2, nl, ap]
          · rcases oy with e' | ⟨c', e', hc'⟩
            · rw [e'] at hc; exact hy c hc
            · rw [e'] at hc
              cases hc
              have := hg.2.1
              have := k3.2.1
              omega
          · simp at hgg
            rw [← hgg]) 512 (bs.length + 1) [Z x, Z .nils, I .i64 0] s ⟨.nils, [], 0, 0, rfl, Gr.refl wf, .inl ⟨rfl, rfl⟩, (fun c hc => by cases hc), by omega, by omega, by simp, (fun g hg => by simp at hg), (fun _ => rfl), rfl⟩ (by omega)
  refine ⟨y, τ, ?_, hg, hgs, fun c hc => ⟨hy c hc, hgs.lt hg.1 hc⟩⟩
  generalize R (d + 4) = r at lp ⊢
  simp [lp, retT, allV]
end
end Go.Proofs.YtgecidicpdobfaaDoor
