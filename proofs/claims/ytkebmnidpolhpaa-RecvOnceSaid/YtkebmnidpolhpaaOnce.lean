/-
  RecvOnce returns true, whatever the order. No conditions.
-/
import Derived.Test.YtkebmnidpolhpaaTake
namespace Go.Proofs.Ytkebmnidpolhpaa
open Go Go.Abs Go.Abs.F
set_option linter.unusedVariables false

theorem tell_loop (r : CallF) (v0 v1 v3 : T) {n : Int} {d : Nat} {x : S} {τ : St} (ho : Out τ n d (Z x)) (hd : d ≤ 8) (h0 : 0 ≤ n) (h1 : n ≤ 1000000) :
    loops (f4_l2 r 512) 512 [v0, v1, I .i64 n, v3, Z x, I .i64 0] τ = some (.exit 2 [v0, v1, I .i64 (n + d), v3], τ) := by
  have hlen : aLenSl (Z x) = some (I .i64 d) := by
    rcases ho with ⟨rfl, e⟩ | ⟨c, rows, _, e, _⟩
    · rw [e]; rfl
    · rw [e]; rfl
  obtain ⟨j, t, h, hj, ht⟩ := loops_inv (f := f4_l2 r 512) (fun k v s => ∃ j : Nat, k + j = d ∧ v = [v0, v1, I .i64 (n + j), v3, Z x, I .i64 j] ∧ s = τ) (fun j s => j = .exit 2 [v0, v1, I .i64 (n + d), v3] ∧ s = τ) (by
    rintro k v s ⟨j, hk, rfl, rfl⟩
    by_cases hj : j < d
    · left
      rcases ho with ⟨rfl, e⟩ | ⟨c, rows, _, e, hc, hrl, hrows⟩
      · omega
      cases e
      obtain ⟨b, hb, hbl⟩ := hrows j hj
      have ix : aIndexSl 1 (Z (.sl c 0 d (.grown 1))) (I .i64 j) = some (Z (.ptr c j)) := by rw [aIndexSl_int rfl hj]; simp
      have ld : aLoad1 (Z (.ptr c j)) s.get = some (Z (one b)) := aLoad1_of hc hb
      have ix2 : aIndexSl 1 (Z (one b)) (I .i64 0) = some (Z (.ptr b 0)) := aIndexSl_int (j := 0) rfl (by omega)
      have ld2 : aLoad1 (Z (.ptr b 0)) s.get = some (Z (byteOf (n + 1 + j))) := aLoad1_of hbl rfl
      have w1 : IntKind.i64.wrap (n + j + 1) = n + 1 + j := by rw [wrap_in _ (by omega) (by omega)]; omega
      have w2 : IntKind.i64.wrap ((j : Int) + 1) = (j : Int) + 1 := wrap_in _ (by omega) (by omega)
      have hlt : (j : Int) < (d : Int) := by omega
      refine ⟨[v0, v1, I .i64 (n + 1 + j), v3, Z (.sl c 0 d (.grown 1)), I .i64 ((j : Int) + 1)], s, k - 1, ?_, by omega, j + 1, by omega, by simp; omega, rfl⟩
      unfold f4_l2
      simp [hlen, hlt, ix, ld, ix2, ld2, w1, w2]
    · right
      have hlt : ¬ (j : Int) < (d : Int) := by omega
      have hjd : j = d := by omega
      subst hjd
      refine ⟨_, s, ?_, (fun v hv => by cases hv), rfl, rfl⟩
      unfold f4_l2
      simp [hlen, hlt]) 512 d [v0, v1, I .i64 n, v3, Z x, I .i64 0] τ ⟨0, by omega, by simp, rfl⟩ (by omega)
  rw [h, hj, ht]

section
variable {a0 : T} {rows : List (List S)}

/-- Between two rounds. -/
def In (a0 : T) (i m : Nat) (rows : List (List S)) (k : Nat) (v : List T) (s : St) : Prop :=
  ∃ (n : Int) (es : List (S × V)) (j : Nat), k + j = 100 ∧ v = [a0, Z (.ptr i 0), I .i64 n, I .i64 j] ∧ Has s i m n (n + 8) es ∧ (∀ p ∈ es, p.1 ≠ .int .i64 (n + 1)) ∧ es.length ≤ j ∧ 0 ≤ n ∧ n ≤ 8 * j ∧ s.get 0 = some (argBlk rows.flatten)

theorem row_load (hr : ∀ x ∈ rows, All2 KS [.int .i64] x) {j : Nat} (hj : j < rows.length) : ∃ x : Int, ∀ s : St, s.get 0 = some (argBlk rows.flatten) → aLoad1 (Z (.ptr 0 (j * 1))) s.get = some (I .i64 x) := by
  have hq : rows[j]? = some rows[j] := List.getElem?_eq_getElem hj
  obtain ⟨ns, hn, hl, _⟩ := ints_of (ks := [.i64]) (hr _ (List.mem_of_getElem? hq))
  match ns, hl with
  | [x], _ =>
    have he : ∀ r ∈ rows, r.length = 1 := fun r hr' => (forall2_length (hr r hr')).symm
    refine ⟨x, fun s hs => argBlk_load hs ?_⟩
    have := rows_get he j 0 _ hq (by omega)
    rw [Nat.add_zero] at this
    rw [this, hn]
    rfl

theorem once_round (ha : SlOf a0 0 rows) (hr : ∀ x ∈ rows, All2 KS [.int .i64] x) (i m : Nat) (hi : i ≠ 0) (hm : m ≠ 0) (k : Nat) (v : List T) (s : St) (h : In a0 i m rows k v s) :
    (∃ v' s' k', f4_l1 (R 5) 512 v s = some (.normal v', s') ∧ k = k' + 1 ∧ In a0 i m rows k' v' s') ∨
    ∃ j s', f4_l1 (R 5) 512 v s = some (j, s') ∧ (∀ v, j ≠ .normal v) ∧ j = .exit 0 [] := by
  obtain ⟨n, es, j, hk, rfl, hh, hne, hel, hn0, hn1, h0⟩ := h
  have hl := ha.len
  by_cases hj : j < rows.length ∧ j < 100
  · left
    obtain ⟨x, hld⟩ := row_load hr hj.1
    have hix := ha.index (k := .i64) (e := 1) (n := (j : Int)) rfl hj.1
    have ld : aLoad1 (Z (.ptr 0 j)) s.get = some (I .i64 x) := by
      have := hld s h0
      rwa [Nat.mul_one] at this
    obtain ⟨X, hX0, hX1, hX, hX', _⟩ := mod_u x 10 (by omega) (by omega)
    have c1 : (j : Int) < (rows.length : Int) := by omega
    have c2 : (j : Int) < 100 := by omega
    have w1 : IntKind.i64.wrap (n - 2) = n - 2 := wrap_in _ (by omega) (by omega)
    have w2 : IntKind.i64.wrap (n - 2 + X) = n - 2 + X := wrap_in _ (by omega) (by omega)
    have w3 : IntKind.i64.wrap (n + 8) = n + 8 := wrap_in _ (by omega) (by omega)
    have w4 : IntKind.i64.wrap ((j : Int) + 1) = (j : Int) + 1 := wrap_in _ (by omega) (by omega)
    obtain ⟨s1, hs1⟩ : ∃ s1, s1 = s.push (.cells true [byteOf (n - 2 + X)]) := ⟨_, rfl⟩
    have nw : aNew s (nSlice 1 (aFill [.int .u8 0] [(0, 1, I .u8 (IntKind.u8.wrap (n - 2 + X)))])) = some (Z (.sl s.size 0 1 (.known 1)), s1) := by
      simp [aNew, nSlice, aFill, V.cells, setRange, hs1]
    have g1 : ∀ b, b < s.size → s1.get b = s.get b := fun b hb => by rw [hs1, St.get_push_ne _ _ (by omega)]
    have g1n : s1.get s.size = some (.cells true [byteOf (n - 2 + X)]) := by rw [hs1, St.get_push_same]
    have z1 : s1.size = s.size + 1 := by rw [hs1]; rfl
    have hh1 : Has s1 i m n (n + 8) es := ⟨by rw [hs1]; exact St.wf_push hh.wf _, by rw [g1 i (hh.wf.lt hh.ri)]; exact hh.ri, by rw [g1 m (hh.wf.lt hh.mp)]; exact hh.mp, fun p hp => by
      obtain ⟨q, b, a1, a2, a3, a4⟩ := hh.ent p hp
      exact ⟨q, b, a1, a2, a3, by rw [g1 b (hh.wf.lt a4)]; exact a4⟩, hh.nd⟩
    obtain ⟨e, y, τ, d, hrun, he, hleft⟩ := take_run (c := .known 1) 3 hh1 hne hel (by omega) hn0 (by omega) (seq := n - 2 + X) (by omega) (by omega) g1n
    obtain ⟨es', hh', hne', hel'⟩ := hleft.has
    have hd := hleft.few
    have hgot := got_run 4 hh'.ri
    have hloop := tell_loop (R 5) a0 (Z (.ptr i 0)) (I .i64 j) hleft.out hd hn0 (by omega)
    have h0' : τ.get 0 = some (argBlk rows.flatten) := by
      have hs0 := hh.wf.lt h0
      rw [hleft.old 0 (by omega) (Ne.symm hi) (Ne.symm hm), g1 0 hs0]
      exact h0
    refine ⟨[a0, Z (.ptr i 0), I .i64 (n + d), I .i64 ((j : Int) + 1)], τ, k - 1, ?_, by omega, n + d, es', j + 1, by omega, by simp, hh', hne', hel', by omega, by omega, h0'⟩
    unfold f4_l1
    simp only [Nat.reduceAdd] at hrun hgot
    generalize R 5 = r at hrun hgot hloop ⊢
    by_cases hbad : n - 2 + X < 1
    · have he' : e ≠ 0 := he.2 (.inl hbad)
      simp [hl, c1, c2, w1, hix, ld, hX, hX', w2, nw, hrun, aExtract, hbad, w3, he', hloop, hgot, w4]
    · have hbad2 : ¬ n + 8 < n - 2 + X := by omega
      have he' : e = 0 := by
        rcases Classical.em (e = 0) with h | h
        · exact h
        · rcases he.1 h with h | h
          · exact absurd h hbad
          · exact absurd h hbad2
      simp [hl, c1, c2, w1, hix, ld, hX, hX', w2, nw, hrun, aExtract, hbad, w3, hbad2, he', hloop, hgot, w4]
  · right
    by_cases hj1 : (j : Int) < (rows.length : Int)
    · have hj2 : ¬ (j : Int) < 100 := by omega
      refine ⟨_, s, ?_, ?_, rfl⟩
      · unfold f4_l1
        simp [hl, hj1, hj2]
      · intro v hv; cases hv
    · refine ⟨_, s, ?_, ?_, rfl⟩
      · unfold f4_l1
        simp [hl, hj1]
      · intro v hv; cases hv

theorem once_run (ha : SlOf a0 0 rows) (hr : ∀ x ∈ rows, All2 KS [.int .i64] x) : ∃ τ, R 6 4 [a0] (St.empty.push (argBlk rows.flatten)) = some (B true, τ) := by
  rw [f4_run]
  unfold f4
  have hn := new_run (s := St.empty.push (argBlk rows.flatten)) 4
  obtain ⟨s0, hs0⟩ : ∃ s0, s0 = St.empty.push (argBlk rows.flatten) := ⟨_, rfl⟩
  rw [← hs0] at hn ⊢
  have z0 : s0.size = 1 := by rw [hs0]; rfl
  have f0 : s0.wf := by rw [hs0]; exact St.wf_push St.wf_empty _
  have g0 : s0.get 0 = some (argBlk rows.flatten) := by rw [hs0]; exact St.get_push_same St.empty _
  obtain ⟨s2, hs2⟩ : ∃ s2, s2 = (s0.push (.map [])).push (.cells true [.int .i64 0, .map s0.size]) := ⟨_, rfl⟩
  rw [← hs2] at hn
  have hh : Has s2 (s0.size + 1) s0.size 0 (0 + 8) [] := by
    refine ⟨by rw [hs2]; exact St.wf_push (St.wf_push f0 _) _, ?_, ?_, (fun p hp => by cases hp), List.nodup_nil⟩
    · have := St.get_push_same (s0.push (.map [])) (.cells true [.int .i64 0, .map s0.size])
      rwa [St.size_push, ← hs2] at this
    · rw [hs2, St.get_push_ne _ _ (by rw [St.size_push]; omega), St.get_push_same]
  have h2 : s2.get 0 = some (argBlk rows.flatten) := by
    rw [hs2, St.get_push_ne _ _ (by rw [St.size_push]; omega), St.get_push_ne _ _ (by omega)]
    exact g0
  obtain ⟨j, τ, h, hq⟩ := loops_inv (In a0 (s0.size + 1) s0.size rows) (fun j _ => j = .exit 0 []) (once_round ha hr (s0.size + 1) s0.size (by omega) (by omega)) 512 100 [a0, Z (.ptr (s0.size + 1) 0), I .i64 0, I .i64 0] s2
    ⟨0, [], 0, rfl, by simp, hh, (fun p hp => by cases hp), by simp, by omega, by omega, h2⟩ (by omega)
  subst hq
  have e6 := told_run 4 τ
  simp only [Nat.reduceAdd] at hn e6
  generalize R 5 = r at hn h e6 ⊢
  exact ⟨τ, by simp [hn, h, e6]⟩
end
end Go.Proofs.Ytkebmnidpolhpaa
