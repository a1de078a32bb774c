/-
  Which segments may go, and that one list of numbers is within another, in any store. No conditions but those named in each line.
-/
import Derived.Test.YtdnhhakbkinekaaRows2
namespace Go.Proofs.Ytdnhhakbkinekaa
open Go Go.Abs Go.Abs.F
set_option linter.unusedVariables false

abbrev defP : T := .v (.agg [.int .i64 60, .int .i64 600, .int .i64 6000, .int .i64 0, .int .i64 8, .int .i64 30])

theorem default_prim (s : St) : prim1 6 [] s = some (defP, s) := (orP_right rfl).trans (pureP_val rfl (by kernel_rfl) rfl)
theorem may_prim (s : St) : prim1 15 [defP] s = some (B true, s) := (orP_right rfl).trans (pureP_val rfl (by kernel_rfl) rfl)
theorem default_run (d : Nat) (s : St) : R (d + 1) 6 [] s = some (defP, s) := runQ_prim (orP_left (default_prim s))

def old (r : List S) (n : Int) : Bool := decide ((num r 1 = 0 ∧ num r 3 + 60 ≤ n) ∨ (num r 1 = 1 ∧ num r 3 + 600 ≤ n) ∨ (num r 1 = 2 ∧ num r 3 + 6000 ≤ n))

theorem old_lift (d : Nat) (s : St) {p q n : T} {b : Bool} {τ : St} (hp : ([p, q, n].all plainT) = true) (h : f11 (runQ Try.prog 64 prim1 7) 64 p q n St.empty = some (B b, τ)) : R (d + 1) 11 [p, q, n] s = some (B b, s) := by
  refine runQ_prim ((orP_right rfl).trans (orP_left (pureP_of (by rw [hp]; rfl) (τ0 := τ) ?_ rfl)))
  exact ((runQ_body rfl Try.func11 (by kernel_rfl)).trans (f11_eq ..)).trans h

theorem sub_u64 (n x : Int) (h0 : 0 ≤ n) (h1 : n < 2 ^ 63) (h2 : -2 ^ 63 ≤ x) (h3 : x ≤ n) : IntKind.u64.wrap (IntKind.u64.wrap n - IntKind.u64.wrap x) = n - x := by
  have e1 : IntKind.u64.wrap n = n := wrap_u64_in _ h0 (by omega)
  have e2 : IntKind.u64.wrap x = x % 2 ^ 64 := by simp [IntKind.wrap, IntKind.signed, IntKind.bits]
  have e3 : ∀ z, IntKind.u64.wrap z = z % 2 ^ 64 := fun z => by simp [IntKind.wrap, IntKind.signed, IntKind.bits]
  rw [e1, e2, e3]
  omega

theorem old_run (d : Nat) (s : St) {r : List S} (hr : Seg r) (n : Int) (hn0 : 0 ≤ n) (hn : n < 2 ^ 63) : R (d + 1) 11 [.v (.agg r), defP, I .i64 n] s = some (B (old r n), s) := by
  obtain ⟨a, t, c, x, e, rfl, hx0, hx1⟩ := hr
  have e1 := runQ_prim (d := 6) (P := Try.prog) (N := 64) (may_prim ((St.empty.push (.cells true (seg5 a t c x e))).push (.cells true [.int .i64 60, .int .i64 600, .int .i64 6000, .int .i64 0, .int .i64 8, .int .i64 30])))
  simp only [Nat.reduceAdd] at e1
  refine old_lift d s rfl (τ := (St.empty.push (.cells true (seg5 a t c x e))).push (.cells true [.int .i64 60, .int .i64 600, .int .i64 6000, .int .i64 0, .int .i64 8, .int .i64 30])) ?_
  unfold f11
  generalize runQ Try.prog 64 prim1 7 = r at e1 ⊢
  have ho : old (seg5 a t c x e) n = decide ((t = 0 ∧ x + 60 ≤ n) ∨ (t = 1 ∧ x + 600 ≤ n) ∨ (t = 2 ∧ x + 6000 ≤ n)) := rfl
  rw [ho]
  by_cases t0 : t < 0
  · have : ¬ ((t = 0 ∧ x + 60 ≤ n) ∨ (t = 1 ∧ x + 600 ≤ n) ∨ (t = 2 ∧ x + 6000 ≤ n)) := by omega
    simp [aNew, nBox, V.cells, aLoadN, aLoad1, St.get_push, e1, t0, this]
  by_cases t4 : 4 ≤ t
  · have : ¬ ((t = 0 ∧ x + 60 ≤ n) ∨ (t = 1 ∧ x + 600 ≤ n) ∨ (t = 2 ∧ x + 6000 ≤ n)) := by omega
    simp [aNew, nBox, V.cells, aLoadN, aLoad1, St.get_push, e1, t0, t4, this]
  by_cases h1 : n < x
  · rcases (show t = 0 ∨ t = 1 ∨ t = 2 ∨ t = 3 by omega) with rfl | rfl | rfl | rfl
    · have h2 : ¬ x + 60 ≤ n := by omega
      simp [aNew, nBox, V.cells, aLoadN, aLoad1, St.get_push, e1, aIndexArr, aIdx, h1, h2]
    · have h2 : ¬ x + 600 ≤ n := by omega
      simp [aNew, nBox, V.cells, aLoadN, aLoad1, St.get_push, e1, aIndexArr, aIdx, h1, h2]
    · have h2 : ¬ x + 6000 ≤ n := by omega
      simp [aNew, nBox, V.cells, aLoadN, aLoad1, St.get_push, e1, aIndexArr, aIdx, h1, h2]
    · simp [aNew, nBox, V.cells, aLoadN, aLoad1, St.get_push, e1, aIndexArr, aIdx]
  · have w3 := sub_u64 n x hn0 hn hx0 (by omega)
    rcases (show t = 0 ∨ t = 1 ∨ t = 2 ∨ t = 3 by omega) with rfl | rfl | rfl | rfl
    · have w4 : IntKind.u64.wrap 60 = 60 := rfl
      simp [aNew, nBox, V.cells, aLoadN, aLoad1, St.get_push, e1, aIndexArr, aIdx, h1, w3, w4]
      omega
    · have w4 : IntKind.u64.wrap 600 = 600 := rfl
      simp [aNew, nBox, V.cells, aLoadN, aLoad1, St.get_push, e1, aIndexArr, aIdx, h1, w3, w4]
      omega
    · have w4 : IntKind.u64.wrap 6000 = 6000 := rfl
      simp [aNew, nBox, V.cells, aLoadN, aLoad1, St.get_push, e1, aIndexArr, aIdx, h1, w3, w4]
      omega
    · simp [aNew, nBox, V.cells, aLoadN, aLoad1, St.get_push, e1, aIndexArr, aIdx]

def rolled (rows : List (List S)) (r : List S) : Bool := decide (num r 1 = 3) || rows.any fun q => up q r

section
variable {s t : St} {x : S} {rows : List (List S)}

theorem dyn_clo (c : CallF) (q0 : Nat) (a : T) (s : St) : dyn Try.prog c (Z (.clo 18 [(q0, 0)])) [a] s = c 18 [a, Z (.ptr q0 0)] s := by
  have h : callable Try.prog 18 = true := by kernel_rfl
  simp only [dyn, if_pos h]
  rfl

theorem indexf_run (d : Nat) (h : SR s x rows) (wf : s.wf) (hs : ∀ q ∈ rows, Seg q) {r : List S} (hr : Seg r) {q0 : Nat} (hq0 : s.get q0 = some (.cells true r)) (hl : rows.length ≤ 60) :
    ∃ k t, R (d + 2) 21 [Z x, Z (.clo 18 [(q0, 0)])] s = some (I .i64 k, t) ∧ Gr s t ∧ (0 ≤ k ↔ rows.any (fun q => up q r) = true) := by
  rw [f21_run]
  unfold f21
  have hlen := h.len
  have hup := fun {u : St} (wfu : u.wf) {q : List S} (hq : Seg q) (hu : u.get q0 = some (.cells true r)) => up_run d wfu hq hr hu
  generalize R (d + 1) = c at hup ⊢
  obtain ⟨j, t, lp, g, hq⟩ := loops_inv (f := f21_l1 c 64) (fun k v u => ∃ j : Nat, k + j = rows.length ∧ v = [Z x, Z (.clo 18 [(q0, 0)]), I .i64 rows.length, I .i64 j] ∧ Gr s u ∧ (rows.take j).any (fun q => up q r) = false) (fun j u => Gr s u ∧ ((j = .exit 0 [] ∧ rows.any (fun q => up q r) = false) ∨ ∃ k : Nat, j = .ret (I .i64 k) ∧ rows.any (fun q => up q r) = true)) (by
    rintro k v u ⟨j, hk, rfl, g, hno⟩
    by_cases hj : j < rows.length
    · obtain ⟨q, hq⟩ : ∃ q, rows[j]? = some q := ⟨_, List.getElem?_eq_getElem hj⟩
      have hqs := hs q (List.mem_of_getElem? hq)
      obtain ⟨p, ix, ld⟩ := (h.gr wf g).at hs hq
      have hlt : (j : Int) < (rows.length : Int) := by omega
      have w1 : IntKind.i64.wrap ((j : Int) + 1) = (j : Int) + 1 := wrap_in _ (by omega) (by omega)
      obtain ⟨u2, e, g2⟩ := hup g.1 hqs (by rw [g.2.2 q0 (wf.lt hq0)]; exact hq0)
      cases hb : up q r with
      | true =>
        right
        rw [hb] at e
        refine ⟨.ret (I .i64 j), u2, ?_, (fun v hv => by cases hv), g.trans g2, .inr ⟨j, rfl, List.any_eq_true.2 ⟨q, List.mem_of_getElem? hq, hb⟩⟩⟩
        unfold f21_l1
        simp [hlt, ix, ld, dyn_clo, e]
      | false =>
        left
        rw [hb] at e
        refine ⟨[Z x, Z (.clo 18 [(q0, 0)]), I .i64 rows.length, I .i64 ((j : Int) + 1)], u2, k - 1, ?_, by omega, j + 1, by omega, by simp, g.trans g2, ?_⟩
        · unfold f21_l1
          simp [hlt, ix, ld, dyn_clo, e, w1]
        · rw [List.take_add_one, hq, List.any_append, hno]
          simp [hb]
    · right
      have hlt : ¬ (j : Int) < (rows.length : Int) := by omega
      refine ⟨.exit 0 [], u, ?_, (fun v hv => by cases hv), g, .inl ⟨rfl, by rwa [List.take_of_length_le (by omega)] at hno⟩⟩
      unfold f21_l1
      simp [hlt]) 64 rows.length [Z x, Z (.clo 18 [(q0, 0)]), I .i64 rows.length, I .i64 0] s ⟨0, by omega, by simp, Gr.refl wf, by simp⟩ (by omega)
  rcases hq with ⟨rfl, hno⟩ | ⟨k, rfl, hin⟩
  · exact ⟨-1, t, by simp [hlen, lp], g, by simp [hno]⟩
  · exact ⟨k, t, by simp [hlen, lp], g, by simp [hin]⟩

theorem rolled_run (d : Nat) (h : SR s x rows) (wf : s.wf) (hs : ∀ q ∈ rows, Seg q) {r : List S} (hr : Seg r) (hl : rows.length ≤ 60) : ∃ t, R (d + 4) 13 [Z x, .v (.agg r)] s = some (B (rolled rows r), t) ∧ Gr s t := by
  rw [f13_run]
  unfold f13
  obtain ⟨s1, hs1⟩ : ∃ s1, s1 = s.push (.cells true r) := ⟨_, rfl⟩
  have g1 : Gr s s1 := by rw [hs1]; exact Gr.push wf _
  have nw : aNew s (nBox (.v (.agg r))) = some (Z (.ptr s.size 0), s1) := by simp [aNew, nBox, V.cells, hs1]
  have hb : s1.get s.size = some (.cells true r) := by rw [hs1]; exact St.get_push_same _ _
  obtain ⟨k, t, e, g, hk⟩ := indexf_run d (h.gr wf g1) g1.1 hs hr hb hl
  have e17 : R (d + 3) 17 [Z x, Z (.clo 18 [(s.size, 0)])] s1 = some (B (decide (0 ≤ k)), t) := by
    rw [f17_run]
    unfold f17
    generalize R (d + 2) = c at e ⊢
    simp [e]
  have hdec : decide (0 ≤ k) = rows.any fun q => up q r := by
    cases hany : rows.any fun q => up q r with
    | true => simp [hk.2 hany]
    | false =>
      have : ¬ 0 ≤ k := fun hh => by have := hk.1 hh; rw [hany] at this; cases this
      simp [this]
  rw [hdec] at e17
  have l1 : aLoad1 (Z (.ptr s.size 1)) s1.get = some (I .i64 (num r 1)) := by
    obtain ⟨a, b, c, dd, ee, rfl, _⟩ := hr
    exact aLoad1_of hb rfl
  generalize R (d + 3) = c at e17 ⊢
  by_cases h3 : num r 1 = 3
  · have hrl : rolled rows r = true := by simp [rolled, h3]
    exact ⟨s1, by rw [hrl]; simp [nw, l1, h3], g1⟩
  · have hrl : rolled rows r = rows.any fun q => up q r := by simp [rolled, h3]
    have hc : aClo 18 [Z (.ptr s.size 0)] [] = some (Z (.clo 18 [(s.size, 0)])) := rfl
    exact ⟨t, by rw [hrl]; simp [nw, l1, h3, hc, e17], g1.trans g⟩

/-- May it go? -/
def mayGo (A C : List (List S)) (n : Int) (r : List S) : Bool := old r n && decide (r ∈ A) && decide (r ∈ C) && rolled A r && rolled C r

theorem may_run (d : Nat) {y : S} {A C : List (List S)} (ha : SR s x A) (hc : SR s y C) (wf : s.wf) (hA : ∀ q ∈ A, Seg q) (hC : ∀ q ∈ C, Seg q) (la : A.length ≤ 60) (lc : C.length ≤ 60) {r : List S} (hr : Seg r) (n : Int) (hn0 : 0 ≤ n) (hn : n < 2 ^ 63) :
    ∃ t, R (d + 5) 7 [.v (.agg r), defP, I .i64 n, Z x, Z y] s = some (B (mayGo A C n r), t) ∧ Gr s t := by
  rw [f7_run]
  unfold f7
  have hrl : r.length = 5 := by obtain ⟨a, b, c, d, e, rfl, _⟩ := hr; rfl
  obtain ⟨s2, hs2⟩ : ∃ s2, s2 = (s.push (.cells true r)).push (.cells true [.int .i64 60, .int .i64 600, .int .i64 6000, .int .i64 0, .int .i64 8, .int .i64 30]) := ⟨_, rfl⟩
  have g2 : Gr s s2 := by rw [hs2]; exact (Gr.push wf _).trans (Gr.push (St.wf_push wf _) _)
  have nw1 : aNew s (nBox (.v (.agg r))) = some (Z (.ptr s.size 0), s.push (.cells true r)) := by simp [aNew, nBox, V.cells]
  have nw2 : aNew (s.push (.cells true r)) (nBox defP) = some (Z (.ptr (s.size + 1) 0), s2) := by simp [aNew, nBox, V.cells, hs2]
  have b1 : s2.get s.size = some (.cells true r) := by rw [hs2, St.get_push_ne _ _ (by simp), St.get_push_same]
  have b2 : s2.get (s.size + 1) = some (.cells true [.int .i64 60, .int .i64 600, .int .i64 6000, .int .i64 0, .int .i64 8, .int .i64 30]) := by
    have := St.get_push_same (s.push (.cells true r)) (.cells true [.int .i64 60, .int .i64 600, .int .i64 6000, .int .i64 0, .int .i64 8, .int .i64 30])
    rwa [St.size_push, ← hs2] at this
  have ld : ∀ {u : St}, Gr s2 u → aLoadN 5 (Z (.ptr s.size 0)) u.get = some (.v (.agg r)) := fun {u} g => by
    have : u.get s.size = some (.cells true r) := by rw [g.2.2 _ (g2.1.lt b1)]; exact b1
    simp only [aLoadN, this, hrl]
    simp [List.take_of_length_le, hrl]
  have ld1 := ld (Gr.refl g2.1)
  have ldp : aLoadN 6 (Z (.ptr (s.size + 1) 0)) s2.get = some defP := by simp [aLoadN, b2]
  have eo := old_run (d + 3) s2 hr n hn0 hn
  obtain ⟨s3, e3, g3⟩ := contains_run (d + 2) (ha.gr wf g2) g2.1 hA hr la
  have ld3 := ld g3
  obtain ⟨s4, e4, g4⟩ := contains_run (d + 2) (hc.gr wf (g2.trans g3)) g3.1 hC hr lc
  have ld4 := ld (g3.trans g4)
  obtain ⟨s5, e5, g5⟩ := rolled_run d (ha.gr wf ((g2.trans g3).trans g4)) g4.1 hA hr la
  have ld5 := ld ((g3.trans g4).trans g5)
  obtain ⟨s6, e6, g6⟩ := rolled_run d (hc.gr wf (((g2.trans g3).trans g4).trans g5)) g5.1 hC hr lc
  have eo' : R (d + 4) 11 [.v (.agg r), defP, I .i64 n] s2 = some (B (old r n), s2) := eo
  have e3' : R (d + 4) 12 [Z x, .v (.agg r)] s2 = some (B (decide (r ∈ A)), s3) := e3
  have e4' : R (d + 4) 12 [Z y, .v (.agg r)] s3 = some (B (decide (r ∈ C)), s4) := e4
  generalize R (d + 4) = c at eo' e3' e4' e5 e6 ⊢
  have hm : mayGo A C n r = (old r n && decide (r ∈ A) && decide (r ∈ C) && rolled A r && rolled C r) := rfl
  rw [hm]
  generalize decide (r ∈ A) = bA at e3' ⊢
  generalize decide (r ∈ C) = bC at e4' ⊢
  generalize rolled A r = rA at e5 ⊢
  generalize rolled C r = rC at e6 ⊢
  cases ho : old r n with
  | false => rw [ho] at eo'; exact ⟨s2, by simp [nw1, nw2, ld1, ldp, eo'], g2⟩
  | true =>
    rw [ho] at eo'
    cases bA with
    | false => exact ⟨s3, by simp [nw1, nw2, ld1, ldp, eo', e3'], g2.trans g3⟩
    | true => cases bC with
      | false => exact ⟨s4, by simp [nw1, nw2, ld1, ldp, eo', e3', ld3, e4'], (g2.trans g3).trans g4⟩
      | true => cases rA with
        | false => exact ⟨s5, by simp [nw1, nw2, ld1, ldp, eo', e3', ld3, e4', ld4, e5], ((g2.trans g3).trans g4).trans g5⟩
        | true => exact ⟨s6, by simp [nw1, nw2, ld1, ldp, eo', e3', ld3, e4', ld4, e5, ld5, e6], (((g2.trans g3).trans g4).trans g5).trans g6⟩
end
end Go.Proofs.Ytdnhhakbkinekaa
