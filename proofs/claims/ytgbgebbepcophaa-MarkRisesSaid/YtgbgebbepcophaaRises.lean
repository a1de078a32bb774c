/-
  MarkRises returns true, whatever its steps. No conditions.
-/
import Derived.Test.YtgbgebbepcophaaBounds
namespace Go.Proofs.Ytgbgebbepcophaa
open Go Go.Abs Go.Abs.F
set_option linter.unusedVariables false

/-- A store's other blocks. -/
def Off (i : Nat) (s t : St) : Prop := ∀ j, j ≠ i → t.get j = s.get j

theorem off_two (s : St) (i : Nat) (x y : Blk) : Off i s ((s.set i x).set i y) := fun j h => by rw [St.get_set_ne _ _ h, St.get_set_ne _ _ h]

/-- What the mark keeps. -/
def Ok (o p b : Int) : Prop := 0 ≤ b ∧ b ≤ o ∧ o ≤ 50 ∧ 0 ≤ p ∧ p ≤ 50 ∧ min o p ≤ b

theorem own_step (d : Nat) {s : St} {i : Nat} {v o p b n : Int} (h : s.get i = some (mk v o p b)) (hk : Ok o p b) (h0 : 0 ≤ n) (h1 : n < 51) :
    ∃ e t o', R (d + 2) 8 [Z (.ptr i 0), I .i64 n] s = some (I .i64 e, t) ∧ t.get i = some (mk v o' p (max b (min o' p))) ∧ Ok o' p (max b (min o' p)) ∧ Off i s t := by
  unfold Ok at *
  by_cases hb : n < b
  · refine ⟨_, _, o, own_bad d h (.inl hb), ?_, by omega, fun _ _ => rfl⟩
    rw [h, show max b (min o p) = b by omega]
  · exact ⟨_, _, n, own_good d h (by omega), got _ _ _, by omega, off_two _ _ _ _⟩

theorem peer_step (d : Nat) {s : St} {i : Nat} {v o p b n : Int} (h : s.get i = some (mk v o p b)) (hk : Ok o p b) (h0 : 0 ≤ n) (h1 : n < 51) :
    ∃ e t p', R (d + 2) 7 [Z (.ptr i 0), I .i64 v, I .i64 n] s = some (I .i64 e, t) ∧ t.get i = some (mk v o p' (max b (min o p'))) ∧ Ok o p' (max b (min o p')) ∧ Off i s t := by
  unfold Ok at *
  exact ⟨_, _, max p n, peer_good d h (by omega), got _ _ _, by omega, off_two _ _ _ _⟩

theorem view_step (d : Nat) {s : St} {i : Nat} {v o p b w : Int} (h : s.get i = some (mk v o p b)) (hk : Ok o p b) (h1 : w = v ∨ w = v + 1) (h2 : w ≤ 1073741824) :
    ∃ e t p', R (d + 2) 12 [Z (.ptr i 0), I .i64 w] s = some (I .i64 e, t) ∧ t.get i = some (mk w o p' (max b (min o p'))) ∧ Ok o p' (max b (min o p')) ∧ Off i s t := by
  unfold Ok at *
  rcases h1 with rfl | rfl
  · refine ⟨_, _, p, view_bad (d + 1) h (by omega), ?_, by omega, fun _ _ => rfl⟩
    rw [h, show max b (min o p) = b by omega]
  · refine ⟨_, _, 0, view_good (d + 1) h (by omega), ?_, by omega, off_two _ _ _ _⟩
    rw [got, show max b (min o 0) = b by omega]

section
variable {a0 : T} {c : Nat} {rows : List (List S)}

/-- Between two rounds. -/
def In (a0 : T) (i : Nat) (rows : List (List S)) (k : Nat) (v : List T) (s : St) : Prop :=
  ∃ (V o p b : Int) (j : Nat), k + j = 100 ∧ v = [a0, Z (.ptr i 0), I .i64 b, I .i64 j] ∧ s.get i = some (mk V o p b) ∧ s.get 0 = some (argBlk rows.flatten) ∧ Ok o p b ∧ 1 ≤ V ∧ V ≤ 1 + j

theorem row_load (hr : ∀ x ∈ rows, All2 KS [.int .i64, .int .i64, .int .i64] x) {j : Nat} (hj : j < rows.length) :
    ∃ x y z : Int, ∀ s : St, s.get 0 = some (argBlk rows.flatten) → aLoad1 (Z (.ptr 0 (j * 3 + 0))) s.get = some (I .i64 x) ∧ aLoad1 (Z (.ptr 0 (j * 3 + 1))) s.get = some (I .i64 y) ∧ aLoad1 (Z (.ptr 0 (j * 3 + 2))) s.get = some (I .i64 z) := by
  have hq : rows[j]? = some rows[j] := List.getElem?_eq_getElem hj
  obtain ⟨ns, hn, hl, _⟩ := ints_of (ks := [.i64, .i64, .i64]) (hr _ (List.mem_of_getElem? hq))
  match ns, hl with
  | [x, y, z], _ =>
    have he : ∀ r ∈ rows, r.length = 3 := fun r hr' => (forall2_length (hr r hr')).symm
    refine ⟨x, y, z, fun s hs => ⟨argBlk_load hs ?_, argBlk_load hs ?_, argBlk_load hs ?_⟩⟩
    · rw [rows_get he j 0 _ hq (by omega), hn]; rfl
    · rw [rows_get he j 1 _ hq (by omega), hn]; rfl
    · rw [rows_get he j 2 _ hq (by omega), hn]; rfl

theorem round (ha : SlOf a0 0 rows) (hr : ∀ x ∈ rows, All2 KS [.int .i64, .int .i64, .int .i64] x) (i : Nat) (hi : i ≠ 0) (k : Nat) (v : List T) (s : St) (h : In a0 i rows k v s) :
    (∃ v' s' k', f4_l1 (R 5) 128 v s = some (.normal v', s') ∧ k = k' + 1 ∧ In a0 i rows k' v' s') ∨
    ∃ j s', f4_l1 (R 5) 128 v s = some (j, s') ∧ (∀ v, j ≠ .normal v) ∧ j = .exit 0 [] := by
  obtain ⟨V, o, p, b, j, hk, rfl, hm, h0, hok, hV1, hV2⟩ := h
  have hl := ha.len
  unfold f4_l1
  by_cases hj : j < rows.length ∧ j < 100
  · left
    obtain ⟨x, y, z, hld⟩ := row_load hr hj.1
    have hix := ha.index (k := .i64) (e := 3) (n := (j : Int)) rfl hj.1
    have l0 : aLoad1 (Z (.ptr 0 (j * 3))) s.get = some (I .i64 x) := (hld s h0).1
    have l2 := (hld s h0).2.2
    obtain ⟨X, hX0, hX1, hX, hX'⟩ := mod_run z 51 (by omega) (by omega)
    obtain ⟨Y, hY0, hY1, hY, hY'⟩ := mod_run x 4 (by omega) (by omega)
    have e1 := state_run 4 hm
    have c1 : (j : Int) < (rows.length : Int) := by omega
    have c2 : (j : Int) < 100 := by omega
    have hend : ∀ (t : St) (V' o' p' : Int), t.get i = some (mk V' o' p' (max b (min o' p'))) → Ok o' p' (max b (min o' p')) → R 5 9 [Z (.ptr i 0)] t = some (.tup [.s (.int .i64 V'), .s (.int .i64 o'), .s (.int .i64 p')], t) ∧ R 5 11 [Z (.ptr i 0)] t = some (I .i64 (max b (min o' p')), t) ∧
        ¬ max b (min o' p') < b ∧ ¬ o' < max b (min o' p') := fun t V' o' p' ht hk' => ⟨state_run 4 ht, commit_run 4 ht, by unfold Ok at hk'; omega, by unfold Ok at hk'; omega⟩
    have hwj : IntKind.i64.wrap ((j : Int) + 1) = (j : Int) + 1 := wrap_in _ (by omega) (by omega)
    have fin : ∀ (t : St) (V' o' p' : Int), t.get i = some (mk V' o' p' (max b (min o' p'))) → Ok o' p' (max b (min o' p')) → Off i s t → 1 ≤ V' → V' ≤ 1 + j + 1 → In a0 i rows (k - 1) [a0, Z (.ptr i 0), I .i64 (max b (min o' p')), I .i64 ((j : Int) + 1)] t := by
      intro t V' o' p' ht hk' ho hv1 hv2
      exact ⟨V', o', p', _, j + 1, by omega, by simp, ht, by rw [ho 0 (Ne.symm hi)]; exact h0, hk', hv1, by omega⟩
    rcases (show Y = 0 ∨ Y = 1 ∨ Y = 2 ∨ Y = 3 by omega) with rfl | rfl | rfl | rfl
    · obtain ⟨e, t, o', e2, ht, hk', ho⟩ := own_step 3 hm hok hX0 hX1
      obtain ⟨e3, e4, n1, n2⟩ := hend t V o' p ht hk'
      simp only [Nat.reduceAdd] at e1 e2
      generalize R 5 = r at e1 e2 e3 e4 ⊢
      refine ⟨_, t, k - 1, ?_, by omega, fin t V o' p ht hk' ho hV1 (by omega)⟩
      simp [hl, hix, l0, l2, hX, hX', hY, hY', e1, e2, e3, e4, c1, c2, n1, n2, hwj, aExtract]
    · obtain ⟨e, t, o', e2, ht, hk', ho⟩ := own_step 3 hm hok hX0 hX1
      obtain ⟨e3, e4, n1, n2⟩ := hend t V o' p ht hk'
      simp only [Nat.reduceAdd] at e1 e2
      generalize R 5 = r at e1 e2 e3 e4 ⊢
      refine ⟨_, t, k - 1, ?_, by omega, fin t V o' p ht hk' ho hV1 (by omega)⟩
      simp [hl, hix, l0, l2, hX, hX', hY, hY', e1, e2, e3, e4, c1, c2, n1, n2, hwj, aExtract]
    · obtain ⟨e, t, p', e2, ht, hk', ho⟩ := peer_step 3 hm hok hX0 hX1
      obtain ⟨e3, e4, n1, n2⟩ := hend t V o p' ht hk'
      simp only [Nat.reduceAdd] at e1 e2
      generalize R 5 = r at e1 e2 e3 e4 ⊢
      refine ⟨_, t, k - 1, ?_, by omega, fin t V o p' ht hk' ho hV1 (by omega)⟩
      simp [hl, hix, l0, l2, hX, hX', hY, hY', e1, e2, e3, e4, c1, c2, n1, n2, hwj, aExtract]
    · have hz := rem_int .i64 X 2 (by omega)
      have hz0 : 0 ≤ X.tmod 2 := Int.tmod_nonneg _ hX0
      have hz1 : X.tmod 2 < 2 := Int.tmod_lt_of_pos _ (by omega)
      have hwv : IntKind.i64.wrap (V + X.tmod 2) = V + X.tmod 2 := wrap_in _ (by omega) (by omega)
      obtain ⟨e, t, p', e2, ht, hk', ho⟩ := view_step (w := V + X.tmod 2) 3 hm hok (by omega) (by omega)
      obtain ⟨e3, e4, n1, n2⟩ := hend t _ o p' ht hk'
      simp only [Nat.reduceAdd] at e1 e2
      generalize R 5 = r at e1 e2 e3 e4 ⊢
      refine ⟨_, t, k - 1, ?_, by omega, fin t _ o p' ht hk' ho (by omega) (by omega)⟩
      simp [hl, hix, l0, l2, hX, hX', hY, hY', e1, e2, e3, e4, c1, c2, n1, n2, hwj, aExtract, hz, hwv]
  · right
    by_cases hj1 : (j : Int) < (rows.length : Int)
    · have hj2 : ¬ (j : Int) < 100 := by omega
      refine ⟨_, s, ?_, ?_, rfl⟩
      · simp [hl, hj1, hj2]
      · intro v hv; cases hv
    · refine ⟨_, s, ?_, ?_, rfl⟩
      · simp [hl, hj1]
      · intro v hv; cases hv

theorem rises_run (ha : SlOf a0 0 rows) (hr : ∀ x ∈ rows, All2 KS [.int .i64, .int .i64, .int .i64] x) : ∃ τ, R 6 4 [a0] (St.empty.push (argBlk rows.flatten)) = some (B true, τ) := by
  rw [f4_run]
  unfold f4
  have hn := new_good (v := 1) (o := 0) (s := St.empty.push (argBlk rows.flatten)) 3 (by omega)
  have g0 : ((St.empty.push (argBlk rows.flatten)).push (mk 1 0 0 0)).get (St.empty.push (argBlk rows.flatten)).size = some (mk 1 0 0 0) := St.get_push_same _ _
  have g1 : ((St.empty.push (argBlk rows.flatten)).push (mk 1 0 0 0)).get 0 = some (argBlk rows.flatten) := by rw [St.get_push_ne _ _ (by simp)]; exact St.get_push_same St.empty _
  have hi : (St.empty.push (argBlk rows.flatten)).size ≠ 0 := by simp
  generalize (St.empty.push (argBlk rows.flatten)).push (mk 1 0 0 0) = s0 at hn g0 g1
  generalize (St.empty.push (argBlk rows.flatten)).size = i at hn g0 g1 hi
  obtain ⟨j, τ, h, hq⟩ := loops_inv (In a0 i rows) (fun j _ => j = .exit 0 []) (round ha hr i hi) 128 100 _ s0 ⟨1, 0, 0, 0, 0, rfl, rfl, g0, g1, by unfold Ok; omega, by omega, by omega⟩ (by omega)
  subst hq
  have e6 := told_run 4 τ
  simp only [Nat.reduceAdd] at hn e6
  generalize R 5 = r at hn h e6 ⊢
  refine ⟨τ, ?_⟩
  have h' : loops (f4_l1 r 128) 128 [a0, Z (.ptr i 0), I .i64 0, I .i64 0] s0 = some (.exit 0 [], τ) := h
  simp [hn, h', e6]
end
end Go.Proofs.Ytgbgebbepcophaa
