/-
  Pieces of texts: what strings.Split, Cut, slices.Index and Contains compute, in any store. No conditions but those named in each line.
-/
import Derived.Test.YtlhbidbdmdcdeaaGreatDoorAbsE
import Derived.Test.YtlhbidbdmdcdeaaGreatDoorWalk
namespace Go.Proofs.YtlhbidbdmdcdeaaGreatDoor
open Go Go.Abs Go.Abs.F
set_option linter.unusedVariables false
section
variable {s t : St} {x y : S} {l : Bs} {c : UInt8}

theorem index_run (d : Nat) : R (d + 1) 104 [Z (.str l), Z (.str [c])] s = some (I .i64 (ixB c l 0), s) := runQ_prim (prim_ix (by decide))
theorem index2_run (d : Nat) : R (d + 1) 105 [Z (.str l), Z (.str [c])] s = some (I .i64 (ixB c l 0), s) := runQ_prim (prim_ix (by decide))
theorem count_run (d : Nat) : R (d + 1) 103 [Z (.str l), Z (.str [c])] s = some (I .i64 (cntB c l : Nat), s) := runQ_prim prim_cnt

theorem cut_run (d : Nat) (hl : l.length ≤ 100000) : R (d + 3) 78 [Z (.str l), Z (.str [c])] s = some (.tup [.s (.str (l.takeWhile fun b => !Nat.beq b.toNat c.toNat)), .s (.str (match ixB c l 0 with | .ofNat m => l.drop (m + 1) | _ => [])), .s (.bool (decide (0 ≤ ixB c l 0)))], s) := by
  have key : R (d + 2) 92 [Z (.str l), Z (.str [c])] s = some (.tup [.s (.str (l.takeWhile fun b => !Nat.beq b.toNat c.toNat)), .s (.str (match ixB c l 0 with | .ofNat m => l.drop (m + 1) | _ => [])), .s (.bool (decide (0 ≤ ixB c l 0)))], s) := by
    rw [f92_run]
    unfold f92
    have e := index2_run (s := s) (l := l) (c := c) d
    rcases cut_first c l with ⟨h1, h2⟩ | ⟨m, h0, h1, h2⟩
    · rw [h1] at e ⊢
      have c0 : ¬ (0 : Int) ≤ -1 := by decide
      simp [e, c0, h2, retT, allV]
    · rw [h1] at e ⊢
      have c0 : (0 : Int) ≤ (m : Int) := by omega
      have w1 : IntKind.i64.wrap ((m : Int) + 1) = ((m + 1 : Nat) : Int) := by rw [wrap_in _ (by omega) (by omega)]; omega
      have p1 := aPieceStr_hi (l := l) (m := m) (n := (m : Int)) rfl (by omega)
      have p2 := aPieceStr_lo (l := l) (m := m + 1) (n := ((m + 1 : Nat) : Int)) rfl (by omega)
      generalize ((m + 1 : Nat) : Int) = M1 at w1 p2
      have hd : (match ((m : Nat) : Int) with | .ofNat m => l.drop (m + 1) | _ => []) = l.drop (m + 1) := rfl
      rw [hd]
      generalize ((m : Nat) : Int) = M at *
      simp [e, c0, h2, p1, w1, p2, retT, allV]
  rw [f78_run]
  unfold f78
  simp [key, aExtract, retT, allV]

theorem splitLoop (r : CallF) (hix : ∀ (l : Bs) (u : St), r 104 [Z (.str l), Z (.str [c])] u = some (I .i64 (ixB c l 0), u)) (hl : l.length ≤ 8000) (wf : s.wf) :
    ∃ (m : Bs) (done : List Bs) (τ : St), loops (f91_l1 r 8192) 8192 [Z (.str l), Z (.str [c]), I .i64 0, I .i64 (cntB c l : Nat), Z (.sl s.size 0 (cntB c l + 1) (.known (cntB c l + 1))), I .i64 0] (s.push (.cells true (List.replicate (cntB c l + 1) (.str [])))) =
        some (.exit 0 [Z (.str m), Z (.sl s.size 0 (cntB c l + 1) (.known (cntB c l + 1))), I .i64 (cntB c l : Nat)], τ) ∧ τ.wf ∧ τ.size = s.size + 1 ∧ (∀ b, b < s.size → τ.get b = s.get b) ∧ done ++ [m] = splitB c l ∧ done.length = cntB c l ∧
        τ.get s.size = some (.cells true (strS done ++ [.str []])) := by
  obtain ⟨n, hn⟩ : ∃ n, n = cntB c l := ⟨_, rfl⟩
  have hnl := cntB_le c l
  rw [← hn] at hnl
  rw [← hn]
  obtain ⟨j, τ, lp, m, done, rfl, q1, q2, q3, q4, q5, q6⟩ := loops_inv (f := f91_l1 r 8192) (fun q v u => ∃ (m : Bs) (done : List Bs), q + done.length = n ∧ v = [Z (.str m), Z (.str [c]), I .i64 0, I .i64 (n : Nat), Z (.sl s.size 0 (n + 1) (.known (n + 1))), I .i64 (done.length : Nat)] ∧ u.wf ∧ u.size = s.size + 1 ∧ (∀ b, b < s.size → u.get b = s.get b) ∧
      done ++ splitB c m = splitB c l ∧ cntB c m = q ∧ m.length ≤ l.length ∧ u.get s.size = some (.cells true (strS done ++ List.replicate (n + 1 - done.length) (.str []))))
    (fun j u => ∃ (m : Bs) (done : List Bs), j = .exit 0 [Z (.str m), Z (.sl s.size 0 (n + 1) (.known (n + 1))), I .i64 (n : Nat)] ∧ u.wf ∧ u.size = s.size + 1 ∧ (∀ b, b < s.size → u.get b = s.get b) ∧ done ++ [m] = splitB c l ∧ done.length = n ∧ u.get s.size = some (.cells true (strS done ++ [.str []]))) (by
    rintro q v u ⟨m, done, hq, rfl, h1, h2, h3, h4, h5, h6, h7⟩
    rcases split_first c m with ⟨k1, k2, k3⟩ | ⟨i, k0, k1, k2, k3⟩
    · right
      have : q = 0 := by omega
      subst this
      have hd : done.length = n := by omega
      have c0 : ¬ ((n : Int) < (n : Int)) := by omega
      refine ⟨_, u, ?_, (fun v hv => by cases hv), m, done, rfl, h1, h2, h3, by rw [← h4, k3], hd, ?_⟩
      · unfold f91_l1
        rw [hd]
        simp [c0]
      · rw [h7, hd, show n + 1 - n = 1 by omega]
        rfl
    · left
      have hdl : done.length < n := by omega
      have c0 : ((done.length : Nat) : Int) < (n : Int) := by omega
      have c1 : ¬ ((i : Nat) : Int) < 0 := by omega
      have w0 : IntKind.i64.wrap ((i : Nat) : Int) = ((i : Nat) : Int) := wrap_in _ (by omega) (by omega)
      have w1 : IntKind.i64.wrap ((i : Int) + 1) = ((i + 1 : Nat) : Int) := by rw [wrap_in _ (by omega) (by omega)]; omega
      have w2 : IntKind.i64.wrap (((done.length : Nat) : Int) + 1) = ((done.length + 1 : Nat) : Int) := by rw [wrap_in _ (by omega) (by omega)]; omega
      have p1 := aPieceStr_hi (l := m) (m := i) (n := ((i : Nat) : Int)) rfl (by omega)
      have p2 := aPieceStr_lo (l := m) (m := i + 1) (n := ((i + 1 : Nat) : Int)) rfl (by omega)
      have ix : aIndexSl 1 (Z (.sl s.size 0 (n + 1) (.known (n + 1)))) (I .i64 ((done.length : Nat) : Int)) = some (Z (.ptr s.size done.length)) := by rw [aIndexSl_int (j := done.length) rfl (by omega), Nat.zero_add, Nat.mul_one]
      have hlen : (strS done ++ List.replicate (n + 1 - done.length) (S.str [])).length = n + 1 := by simp; omega
      have st := aStore1_of (σ := u) (i := s.size) (o := done.length) (x := .str (m.take i)) h7 (by omega)
      have hset : setRange (strS done ++ List.replicate (n + 1 - done.length) (S.str [])) done.length [.str (m.take i)] = strS (done ++ [m.take i]) ++ List.replicate (n + 1 - (done ++ [m.take i]).length) (.str []) := by
        rw [setRange_eq _ _ _ (by simp; omega)]
        have e1 : (strS done ++ List.replicate (n + 1 - done.length) (S.str [])).take done.length = strS done := by
          rw [List.take_append_of_le_length (by simp)]
          exact List.take_of_length_le (by simp)
        have e2 : (strS done ++ List.replicate (n + 1 - done.length) (S.str [])).drop (done.length + [S.str (m.take i)].length) = List.replicate (n + 1 - (done.length + 1)) (S.str []) := by
          rw [List.drop_append, List.drop_eq_nil_of_le (by simp), List.nil_append, List.drop_replicate]
          congr 1
          simp
          omega
        rw [e1, e2, strS_append, List.length_append]
        simp [strS]
      rw [hset] at st
      have e := hix m u
      rw [k1] at e
      refine ⟨[Z (.str (m.drop (i + 1))), Z (.str [c]), I .i64 0, I .i64 (n : Nat), Z (.sl s.size 0 (n + 1) (.known (n + 1))), I .i64 ((done.length + 1 : Nat) : Int)], u.set s.size (.cells true (strS (done ++ [m.take i]) ++ List.replicate (n + 1 - (done ++ [m.take i]).length) (.str []))), q - 1, ?_, by omega, m.drop (i + 1), done ++ [m.take i], by simp; omega, by simp, St.wf_set h1 (by omega) _, by simpa using h2, fun b hb => by rw [St.get_set_ne _ _ (by omega)]; exact h3 b hb, by rw [← h4, k2]; simp, by omega, by simp; omega, St.get_set_same _ _ _⟩
      unfold f91_l1
      generalize ((i + 1 : Nat) : Int) = I1 at w1 p2
      generalize ((i : Nat) : Int) = I0 at c1 w0 w1 p1 e
      generalize ((done.length + 1 : Nat) : Int) = D1 at w2 ⊢
      generalize ((done.length : Nat) : Int) = D0 at c0 w2 ix ⊢
      simp [c0, e, c1, w0, w1, p1, ix, st, p2, w2]) 8192 n [Z (.str l), Z (.str [c]), I .i64 0, I .i64 (n : Nat), Z (.sl s.size 0 (n + 1) (.known (n + 1))), I .i64 0] (s.push (.cells true (List.replicate (n + 1) (.str [])))) ⟨l, [], by simp, rfl, St.wf_push wf _, by simp, fun b hb => St.get_push_ne _ _ (by omega), by simp, hn.symm, Nat.le_refl _, by simp [strS]⟩ (by omega)
  exact ⟨m, done, τ, lp, q1, q2, q3, q4, q5, q6⟩

theorem split_run (d : Nat) (wf : s.wf) (hl : l.length ≤ 8000) : ∃ x t, R (d + 3) 77 [Z (.str l), Z (.str [c])] s = some (Z x, t) ∧ FT s t x (splitB c l) := by
  obtain ⟨m, done, τ, lp, q1, q2, q3, q4, q5, q6⟩ := splitLoop (c := c) (R (d + 1)) (fun l u => index_run d) hl wf
  have hnl := cntB_le c l
  have hcnt := count_run (s := s) (l := l) (c := c) d
  have key : R (d + 2) 91 [Z (.str l), Z (.str [c]), I .i64 0, I .i64 (-1)] s = some (Z (.sl s.size 0 (cntB c l + 1) (.known (cntB c l + 1))), τ.set s.size (.cells true (strS (splitB c l)))) := by
    rw [f91_run]
    unfold f91
    obtain ⟨n, hn⟩ : ∃ n, n = cntB c l := ⟨_, rfl⟩
    rw [← hn] at hnl lp q5 hcnt ⊢
    have w1 : IntKind.i64.wrap ((n : Int) + 1) = ((n + 1 : Nat) : Int) := by rw [wrap_in _ (by omega) (by omega)]; omega
    have w2 : IntKind.i64.wrap ((l.length : Int) + 1) = ((l.length + 1 : Nat) : Int) := by rw [wrap_in _ (by omega) (by omega)]; omega
    have hmin : min ((n + 1 : Nat) : Int) ((l.length + 1 : Nat) : Int) = ((n + 1 : Nat) : Int) := by omega
    have w3 : IntKind.i64.wrap (((n + 1 : Nat) : Int) - 1) = (n : Int) := by rw [wrap_in _ (by omega) (by omega)]; omega
    have nw : aNew s (nMake 1 16 [.str []] (I .i64 ((n + 1 : Nat) : Int)) (I .i64 ((n + 1 : Nat) : Int))) = some (Z (.sl s.size 0 (n + 1) (.known (n + 1))), s.push (.cells true (List.replicate (n + 1) (.str [])))) := by
      have h1 : [S.str []].length = 1 ∧ (0 : Int) ≤ ((n + 1 : Nat) : Int) ∧ ((n + 1 : Nat) : Int) ≤ ((n + 1 : Nat) : Int) ∧ ((n + 1 : Nat) : Int) ≤ 2 ^ 62 ∧ ((16 : Nat) : Int) * ((n + 1 : Nat) : Int) ≤ 2 ^ 48 := ⟨rfl, by omega, by omega, by omega, by omega⟩
      simp only [aNew, nMake, if_pos h1, Int.toNat_natCast]
      have hz : ∀ k, zeros k [S.str []] = List.replicate k (.str []) := by
        intro k
        simp [zeros]
      rw [hz]
    have ix : aIndexSl 1 (Z (.sl s.size 0 (n + 1) (.known (n + 1)))) (I .i64 (n : Int)) = some (Z (.ptr s.size n)) := by rw [aIndexSl_int (j := n) rfl (by omega), Nat.zero_add, Nat.mul_one]
    have st := aStore1_of (σ := τ) (i := s.size) (o := n) (x := .str m) q6 (by simp; omega)
    have hset : setRange (strS done ++ [S.str []]) n [.str m] = strS (splitB c l) := by
      rw [setRange_eq _ _ _ (by simp; omega), ← q4, strS_append]
      have e1 : (strS done ++ [S.str []]).take n = strS done := by
        rw [List.take_append_of_le_length (by simp; omega)]
        exact List.take_of_length_le (by simp; omega)
      have e2 : (strS done ++ [S.str []]).drop (n + [S.str m].length) = [] := List.drop_eq_nil_of_le (by simp; omega)
      rw [e1, e2]
      simp [strS]
    rw [hset] at st
    have pc : aPieceSl 1 (Z (.sl s.size 0 (n + 1) (.known (n + 1)))) none (some (I .i64 ((n + 1 : Nat) : Int))) none = some (Z (.sl s.size 0 (n + 1) (.known (n + 1)))) := by
      unfold aPieceSl
      dsimp only
      rw [aBounds_hi (Nat.le_refl _)]
      simp
    have cc : ¬ [c] = ([] : Bs) := by simp
    generalize ((n + 1 : Nat) : Int) = N1 at w1 hmin w3 nw pc
    generalize ((l.length + 1 : Nat) : Int) = L1 at w2 hmin
    simp [hcnt, w1, w2, hmin, nw, w3, lp, ix, st, pc, cc]
  refine ⟨_, _, ?_, ⟨⟨St.wf_set q1 (by omega) _, by simp; omega, fun b hb => by rw [St.get_set_ne _ _ (by omega)]; exact q3 b hb⟩, ⟨by simp, .inr (.inr ⟨s.size, strS (splitB c l), .known (cntB c l + 1), by rw [splitB_len], .inr (by rw [splitB_len]), St.get_set_same _ _ _, by simp, List.take_of_length_le (by simp)⟩)⟩, fun b hb => by cases hb; exact ⟨Nat.le_refl _, by simp; omega⟩⟩⟩
  rw [f77_run]
  unfold f77
  simp [key]

/-- Where a text stands among texts. -/
def ixT (v : Bs) : List Bs → Nat → Int
  | [], _ => -1
  | w :: r, k => if v = w then (k : Int) else ixT v r (k + 1)

theorem ixT_contains (v : Bs) : ∀ (l : List Bs) (k : Nat), (0 ≤ ixT v l k) ↔ v ∈ l
  | [], k => by simp [ixT]
  | w :: r, k => by
    unfold ixT
    by_cases h : v = w
    · simp [h]
    · rw [if_neg h, ixT_contains v r (k + 1)]
      simp [h]

theorem ixT_range (v : Bs) : ∀ (l : List Bs) (k : Nat), ixT v l k = -1 ∨ ∃ j, j < l.length ∧ ixT v l k = (k + j : Nat) ∧ l[j]? = some v
  | [], k => .inl rfl
  | w :: r, k => by
    unfold ixT
    by_cases h : v = w
    · exact .inr ⟨0, by simp, by rw [if_pos h]; rfl, by simp [h]⟩
    · rw [if_neg h]
      rcases ixT_range v r (k + 1) with e | ⟨j, h1, h2, h3⟩
      · exact .inl e
      · exact .inr ⟨j + 1, by simp; omega, by rw [h2]; omega, by simpa using h3⟩

theorem ixT_drop (v : Bs) (l : List Bs) (k : Nat) (hk : k ≤ l.length) (hn : ∀ j w, j < k → l[j]? = some w → v ≠ w) : ixT v l 0 = ixT v (l.drop k) k := by
  induction k with
  | zero => rfl
  | succ k ih =>
    rw [ih (by omega) fun j w hj => hn j w (by omega)]
    have hc : l.drop k = l[k] :: l.drop (k + 1) := List.drop_eq_getElem_cons (by omega)
    rw [hc]
    show (if v = l[k] then _ else _) = _
    rw [if_neg (hn k l[k] (by omega) (List.getElem?_eq_getElem (by omega)))]

theorem indexT_run (d : Nat) {ws : List Bs} {v : Bs} (h : RT s x ws) (hl : ws.length ≤ 8000) : R (d + 1) 97 [Z x, Z (.str v)] s = some (I .i64 (ixT v ws 0), s) := by
  rw [f97_run]
  unfold f97
  have hlen := h.lens
  obtain ⟨j, τ, lp, hj, hτ⟩ := loops_inv (f := f97_l1 (R d) 8192) (fun q w u => ∃ k : Nat, q + k = ws.length ∧ w = [Z x, Z (.str v), I .i64 ws.length, I .i64 k] ∧ u = s ∧ ∀ j w, j < k → ws[j]? = some w → v ≠ w)
    (fun j u => (j = .exit 0 [] ∧ ixT v ws 0 = -1 ∨ j = .ret (I .i64 (ixT v ws 0))) ∧ u = s) (by
    rintro q w u ⟨k, hk, rfl, rfl, hn⟩
    have hd := ixT_drop v ws k (by omega) hn
    by_cases hkl : k < ws.length
    · have hc : ws[k]? = some ws[k] := List.getElem?_eq_getElem hkl
      have hdr : ws.drop k = ws[k] :: ws.drop (k + 1) := List.drop_eq_getElem_cons hkl
      obtain ⟨p, ix, ld⟩ := RT.atT h (n := (k : Int)) rfl hc
      have c0 : (k : Int) < (ws.length : Int) := by omega
      have w1 : IntKind.i64.wrap ((k : Int) + 1) = ((k + 1 : Nat) : Int) := by rw [wrap_in _ (by omega) (by omega)]; omega
      by_cases he : v = ws[k]
      · right
        have hx : ixT v ws 0 = k := by rw [hd, hdr]; show (if v = ws[k] then _ else _) = _; rw [if_pos he]
        refine ⟨.ret (I .i64 (ixT v ws 0)), u, ?_, (fun v hv => by cases hv), .inr rfl, rfl⟩
        unfold f97_l1
        rw [hx]
        simp [c0, ix, ld, ← he]
      · left
        refine ⟨[Z x, Z (.str v), I .i64 ws.length, I .i64 ((k + 1 : Nat) : Int)], u, q - 1, ?_, by omega, k + 1, by omega, rfl, rfl, fun j w hj hw => ?_⟩
        · unfold f97_l1
          generalize ((k + 1 : Nat) : Int) = K1 at w1 ⊢
          simp [c0, ix, ld, he, w1]
        · by_cases hjk : j = k
          · subst hjk; rw [hc] at hw; cases hw; exact he
          · exact hn j w (by omega) hw
    · right
      have hk' : k = ws.length := by omega
      have c0 : ¬ (k : Int) < (ws.length : Int) := by omega
      refine ⟨.exit 0 [], u, ?_, (fun v hv => by cases hv), .inl ⟨rfl, ?_⟩, rfl⟩
      · unfold f97_l1
        simp [c0]
      · rw [hd, hk', List.drop_length]; rfl) 8192 ws.length [Z x, Z (.str v), I .i64 ws.length, I .i64 0] s ⟨0, rfl, rfl, rfl, fun j w hj => by omega⟩ (by omega)
  subst hτ
  rcases hj with ⟨rfl, he⟩ | rfl
  · rw [he]
    simp [hlen, lp]
  · simp [hlen, lp]

theorem containsT_run (d : Nat) {ws : List Bs} {v : Bs} (h : RT s x ws) (hl : ws.length ≤ 8000) : R (d + 2) 81 [Z x, Z (.str v)] s = some (B (decide (v ∈ ws)), s) := by
  rw [f81_run]
  unfold f81
  have e := indexT_run (v := v) d h hl
  have : decide (0 ≤ ixT v ws 0) = decide (v ∈ ws) := decide_eq_decide.2 (ixT_contains v ws 0)
  simp [e, this]
end
end Go.Proofs.YtlhbidbdmdcdeaaGreatDoor
