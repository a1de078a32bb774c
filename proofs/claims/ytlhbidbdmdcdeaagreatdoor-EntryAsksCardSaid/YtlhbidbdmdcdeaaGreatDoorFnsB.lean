/-
  Several texts in one: what functions that the law reaches compute. No conditions but those named in each line.
-/
import Derived.Test.YtlhbidbdmdcdeaaGreatDoorAbsE
import Derived.Test.YtlhbidbdmdcdeaaGreatDoorFnsA
/-
  Pieces of texts: what strings.Split, Cut, slices.Index and Contains compute, in any store. No conditions but those named in each line.
-/
namespace Go.Proofs.YtlhbidbdmdcdeaaGreatDoor
open Go Go.Abs Go.Abs.F
set_option linter.unusedVariables false
section
variable {s t : St} {x y : S} {l : Bs} {c : UInt8}

theorem index_run (d : Nat) : R (d + 1) 104 [Z (.str l), Z (.str [c])] s = some (I .i64 (ixB c l 0), s) := runQ_prim (prim_ix (by decide))
theorem index2_run (d : Nat) : R (d + 1) 105 [Z (.str l), Z (.str [c])] s = some (I .i64 (ixB c l 0), s) := runQ_prim (prim_ix (by decide))
theorem count_run (d : Nat) : R (d + 1) 103 [Z (.str l), Z (.str [c])] s = some (I .i64 (cntB c l : Nat), s) := runQ_prim prim_cnt

theorem cut_run (d : Nat) (hl : l.length ≤ 100000) : R (d + 3) 78 [Z (.str l), Z (.str [c])] s = some (.tup [.s (.str (l.takeWhile fun b => !Nat.beq b.toNat c.toNat)), .s (.str (match ixB c l 0 with | .ofNat m => l.drop (m + 1) | _ => [])), .s (.bool (decide (0 ≤ ixB c l 0)))], s) := by
  have key : R (d + 2) 92 [Z (.str l), Z (.str [c])] s = some (.tup [.s (.str (l.takeWhile fun b => !Nat.beq b.toNat c.toNat)), .s (.str (match ixB c l 0 with | .ofNat m => l.drop (m + 1) | _ => [])), .s (.bool (decide (0 ≤ ixB c l 0)))], s) := by
    rw [f92_run]
    unfold f92
    have e := index2_run (s := s) (l := l) (c := c) d
    rcases cut_first c l with ⟨h1, h2⟩ | ⟨m, h0, h1, h2⟩
    · rw [h1] at e ⊢
      have c0 : ¬ (0 : Int) ≤ -1 := by decide
      simp [e, c0, h2, retT, allV]
    · rw [h1] at e ⊢
      have c0 : (0 : Int) ≤ (m : Int) := by omega
      have w1 : IntKind.i64.wrap ((m : Int) + 1) = ((m + 1 : Nat) : Int) := by rw [wrap_in _ (by omega) (by omega)]; omega
      have p1 := aPieceStr_hi (l := l) (m := m) (n := (m : Int)) rfl (by omega)
      have p2 := aPieceStr_lo (l := l) (m := m + 1) (n := ((m + 1 : Nat) : Int)) rfl (by omega)
      generalize ((m + 1 : Nat) : Int) = M1 at w1 p2
      have hd : (match ((m : Nat) : Int) with | .ofNat m => l.drop (m + 1) | _ => []) = l.drop (m + 1) := rfl
      rw [hd]
      generalize ((m : Nat) : Int) = M at *
      simp [e, c0, h2, p1, w1, p2, retT, allV]
  rw [f78_run]
  unfold f78
  simp [key, aExtract, retT, allV]

theorem splitLoop (r : CallF) (hix : ∀ (l : Bs) (u : St), r 104 [Z (.str l), Z (.str [c])] u = some (I .i64 (ixB c l 0), u)) (hl : l.length ≤ 8000) (wf : s.wf) :
    ∃ (m : Bs) (done : List Bs) (τ : St), loops (f91_l1 r 8192) 8192 [Z (.str l), Z (.str [c]), I .i64 0, I .i64 (cntB c l : Nat), Z (.sl s.size 0 (cntB c l + 1) (.known (cntB c l + 1))), I .i64 0] (s.push (.cells true (List.replicate (cntB c l + 1) (.str [])))) =
        some (.exit 0 [Z (.str m), Z (.sl s.size 0 (cntB c l + 1) (.known (cntB c l + 1))), I .i64 (cntB c l : Nat)], τ) ∧ τ.wf ∧ τ.size = s.size + 1 ∧ (∀ b, b < s.size → τ.get b = s.get b) ∧ done ++ [m] = splitB c l ∧ done.length = cntB c l ∧
        τ.get s.size = some (.cells true (strS done ++ [.str []])) := by
  obtain ⟨n, hn⟩ : ∃ n, n = cntB c l := ⟨_, rfl⟩
  have hnl := cntB_le c l
  rw [← hn] at hnl
  rw [← hn]
  obtain ⟨j, τ, lp, m, done, rfl, q1, q2, q3, q4, q5, q6⟩ := loops_inv (f := f91_l1 r 8192) (fun q v u => ∃ (m : Bs) (done : List Bs), q + done.length = n ∧ v = [Z (.str m), Z (.str [c]), I .i64 0, I .i64 (n : Nat), Z (.sl s.size 0 (n + 1) (.known (n + 1))), I .i64 (done.length : Nat)] ∧ u.wf ∧ u.size = s.size + 1 ∧ (∀ b, b < s.size → u.get b = s.get b) ∧
      done ++ splitB c m = splitB c l ∧ cntB c m = q ∧ m.length ≤ l.length ∧ u.get s.size = some (.cells true (strS done ++ List.replicate (n + 1 - done.length) (.str []))))
    (fun j u => ∃ (m : Bs) (done : List Bs), j = .exit 0 [Z (.str m), Z (.sl s.size 0 (n + 1) (.known (n + 1))), I .i64 (n : Nat)] ∧ u.wf ∧ u.size = s.size + 1 ∧ (∀ b, b < s.size → u.get b = s.get b) ∧ done ++ [m] = splitB c l ∧ done.length = n ∧ u.get s.size = some (.cells true (strS done ++ [.str []]))) (by
    rintro q v u ⟨m, done, hq, rfl, h1, h2, h3, h4, h5, h6, h7⟩
    rcases split_first c m with ⟨k1, k2, k3⟩ | ⟨i, k0, k1, k2, k3⟩
    · right
      have : q = 0 := by omega
      subst this
      have hd : done.length = n := by omega
      have c0 : ¬ ((n : Int) < (n : Int)) := by omega
      refine ⟨_, u, ?_, (fun v hv => by cases hv), m, done, rfl, h1, h2, h3, by rw [← h4, k3], hd, ?_⟩
      · unfold f91_l1
        rw [hd]
        simp [c0]
      · rw [h7, hd, show n + 1 - n = 1 by omega]
        rfl
    · left
      have hdl : done.length < n := by omega
      have c0 : ((done.length : Nat) : Int) < (n : Int) := by omega
      have c1 : ¬ ((i : Nat) : Int) < 0 := by omega
      have w0 : IntKind.i64.wrap ((i : Nat) : Int) = ((i : Nat) : Int) := wrap_in _ (by omega) (by omega)
      have w1 : IntKind.i64.wrap ((i : Int) + 1) = ((i + 1 : Nat) : Int) := by rw [wrap_in _ (by omega) (by omega)]; omega
      have w2 : IntKind.i64.wrap (((done.length : Nat) : Int) + 1) = ((done.length + 1 : Nat) : Int) := by rw [wrap_in _ (by omega) (by omega)]; omega
      have p1 := aPieceStr_hi (l := m) (m := i) (n := ((i : Nat) : Int)) rfl (by omega)
      have p2 := aPieceStr_lo (l := m) (m := i + 1) (n := ((i + 1 : Nat) : Int)) rfl (by omega)
      have ix : aIndexSl 1 (Z (.sl s.size 0 (n + 1) (.known (n + 1)))) (I .i64 ((done.length : Nat) : Int)) = some (Z (.ptr s.size done.length)) := by rw [aIndexSl_int (j := done.length) rfl (by omega), Nat.zero_add, Nat.mul_one]
      have hlen : (strS done ++ List.replicate (n + 1 - done.length) (S.str [])).length = n + 1 := by simp; omega
      have st := aStore1_of (σ := u) (i := s.size) (o := done.length) (x := .str (m.take i)) h7 (by omega)
      have hset : setRange (strS done ++ List.replicate (n + 1 - done.length) (S.str [])) done.length [.str (m.take i)] = strS (done ++ [m.take i]) ++ List.replicate (n + 1 - (done ++ [m.take i]).length) (.str []) := by
        rw [setRange_eq _ _ _ (by simp; omega)]
        have e1 : (strS done ++ List.replicate (n + 1 - done.length) (S.str [])).take done.length = strS done := by
          rw [List.take_append_of_le_length (by simp)]
          exact List.take_of_length_le (by simp)
        have e2 : (strS done ++ List.replicate (n + 1 - done.length) (S.str [])).drop (done.length + [S.str (m.take i)].length) = List.replicate (n + 1 - (done.length + 1)) (S.str []) := by
          rw [List.drop_append, List.drop_eq_nil_of_le (by simp), List.nil_append, List.drop_replicate]
          congr 1
          simp
          omega
        rw [e1, e2, strS_append, List.length_append]
        simp [strS]
      rw [hset] at st
      have e := hix m u
      rw [k1] at e
      refine ⟨[Z (.str (m.drop (i + 1))), Z (.str [c]), I .i64 0, I .i64 (n : Nat), Z (.sl s.size 0 (n + 1) (.known (n + 1))), I .i64 ((done.length + 1 : Nat) : Int)], u.set s.size (.cells true (strS (done ++ [m.take i]) ++ List.replicate (n + 1 - (done ++ [m.take i]).length) (.str []))), q - 1, ?_, by omega, m.drop (i + 1), done ++ [m.take i], by simp; omega, by simp, St.wf_set h1 (by omega) _, by simpa using h2, fun b hb => by rw [St.get_set_ne _ _ (by omega)]; exact h3 b hb, by rw [← h4, k2]; simp, by omega, by simp; omega, St.get_set_same _ _ _⟩
      unfold f91_l1
      generalize ((i + 1 : Nat) : Int) = I1 at w1 p2
      generalize ((i : Nat) : Int) = I0 at c1 w0 w1 p1 e
      generalize ((done.length + 1 : Nat) : Int) = D1 at w2 ⊢
      generalize ((done.length : Nat) : Int) = D0 at c0 w2 ix ⊢
      simp [c0, e, c1, w0, w1, p1, ix, st, p2, w2]) 8192 n [Z (.str l), Z (.str [c]), I .i64 0, I .i64 (n : Nat), Z (.sl s.size 0 (n + 1) (.known (n + 1))), I .i64 0] (s.push (.cells true (List.replicate (n + 1) (.str [])))) ⟨l, [], by simp, rfl, St.wf_push wf _, by simp, fun b hb => St.get_push_ne _ _ (by omega), by simp, hn.symm, Nat.le_refl _, by simp [strS]⟩ (by omega)
  exact ⟨m, done, τ, lp, q1, q2, q3, q4, q5, q6⟩

theorem split_run (d : Nat) (wf : s.wf) (hl : l.length ≤ 8000) : ∃ x t, R (d + 3) 77 [Z (.str l), Z (.str [c])] s = some (Z x, t) ∧ FT s t x (splitB c l) := by
  obtain ⟨m, done, τ, lp, q1, q2, q3, q4, q5, q6⟩ := splitLoop (c := c) (R (d + 1)) (fun l u => index_run d) hl wf
  have hnl := cntB_le c l
  have hcnt := count_run (s := s) (l := l) (c := c) d
  have key : R (d + 2) 91 [Z (.str l), Z (.str [c]), I .i64 0, I .i64 (-1)] s = some (Z (.sl s.size 0 (cntB c l + 1) (.known (cntB c l + 1))), τ.set s.size (.cells true (strS (splitB c l)))) := by
    rw [f91_run]
    unfold f91
    obtain ⟨n, hn⟩ : ∃ n, n = cntB c l := ⟨_, rfl⟩
    rw [← hn] at hnl lp q5 hcnt ⊢
    have w1 : IntKind.i64.wrap ((n : Int) + 1) = ((n + 1 : Nat) : Int) := by rw [wrap_in _ (by omega) (by omega)]; omega
    have w2 : IntKind.i64.wrap ((l.length : Int) + 1) = ((l.length + 1 : Nat) : Int) := by rw [wrap_in _ (by omega) (by omega)]; omega
    have hmin : min ((n + 1 : Nat) : Int) ((l.length + 1 : Nat) : Int) = ((n + 1 : Nat) : Int) := by omega
    have w3 : IntKind.i64.wrap (((n + 1 : Nat) : Int) - 1) = (n : Int) := by rw [wrap_in _ (by omega) (by omega)]; omega
    have nw : aNew s (nMake 1 16 [.str []] (I .i64 ((n + 1 : Nat) : Int)) (I .i64 ((n + 1 : Nat) : Int))) = some (Z (.sl s.size 0 (n + 1) (.known (n + 1))), s.push (.cells true (List.replicate (n + 1) (.str [])))) := by
      have h1 : [S.str []].length = 1 ∧ (0 : Int) ≤ ((n + 1 : Nat) : Int) ∧ ((n + 1 : Nat) : Int) ≤ ((n + 1 : Nat) : Int) ∧ ((n + 1 : Nat) : Int) ≤ 2 ^ 62 ∧ ((16 : Nat) : Int) * ((n + 1 : Nat) : Int) ≤ 2 ^ 48 := ⟨rfl, by omega, by omega, by omega, by omega⟩
      simp only [aNew, nMake, if_pos h1, Int.toNat_natCast]
      have hz : ∀ k, zeros k [S.str []] = List.replicate k (.str []) := by
        intro k
        simp [zeros]
      rw [hz]
    have ix : aIndexSl 1 (Z (.sl s.size 0 (n + 1) (.known (n + 1)))) (I .i64 (n : Int)) = some (Z (.ptr s.size n)) := by rw [aIndexSl_int (j := n) rfl (by omega), Nat.zero_add, Nat.mul_one]
    have st := aStore1_of (σ := τ) (i := s.size) (o := n) (x := .str m) q6 (by simp; omega)
    have hset : setRange (strS done ++ [S.str []]) n [.str m] = strS (splitB c l) := by
      rw [setRange_eq _ _ _ (by simp; omega), ← q4, strS_append]
      have e1 : (strS done ++ [S.str []]).take n = strS done := by
        rw [List.take_append_of_le_length (by simp; omega)]
        exact List.take_of_length_le (by simp; omega)
      have e2 : (strS done ++ [S.str []]).drop (n + [S.str m].length) = [] := List.drop_eq_nil_of_le (by simp; omega)
      rw [e1, e2]
      simp [strS]
    rw [hset] at st
    have pc : aPieceSl 1 (Z (.sl s.size 0 (n + 1) (.known (n + 1)))) none (some (I .i64 ((n + 1 : Nat) : Int))) none = some (Z (.sl s.size 0 (n + 1) (.known (n + 1)))) := by
      unfold aPieceSl
      dsimp only
      rw [aBounds_hi (Nat.le_refl _)]
      simp
    have cc : ¬ [c] = ([] : Bs) := by simp
    generalize ((n + 1 : Nat) : Int) = N1 at w1 hmin w3 nw pc
    generalize ((l.length + 1 : Nat) : Int) = L1 at w2 hmin
    simp [hcnt, w1, w2, hmin, nw, w3, lp, ix, st, pc, cc]
  refine ⟨_, _, ?_, ⟨⟨St.wf_set q1 (by omega) _, by simp; omega, fun b hb => by rw [St.get_set_ne _ _ (by omega)]; exact q3 b hb⟩, ⟨by simp, .inr (.inr ⟨s.size, strS (splitB c l), .known (cntB c l + 1), by rw [splitB_len], .inr (by rw [splitB_len]), St.get_set_same _ _ _, by simp, List.take_of_length_le (by simp)⟩)⟩, fun b hb => by cases hb; exact ⟨Nat.le_refl _, by simp; omega⟩⟩⟩
  rw [f77_run]
  unfold f77
  simp [key]

def ixT (v : Bs) : List Bs → Nat → Int
  | [], _ => -1
  | w :: r, k => if v = w then (k : Int) else ixT v r (k + 1)

theorem ixT_contains (v : Bs) : ∀ (l : List Bs) (k : Nat), (0 ≤ ixT v l k) ↔ v ∈ l
  | [], k => by simp [ixT]
  | w :: r, k => by
    unfold ixT
    by_cases h : v = w
    · simp [h]
    · rw [if_neg h, ixT_contains v r (k + 1)]
      simp [h]

theorem ixT_range (v : Bs) : ∀ (l : List Bs) (k : Nat), ixT v l k = -1 ∨ ∃ j, j < l.length ∧ ixT v l k = (k + j : Nat) ∧ l[j]? = some v
  | [], k => .inl rfl
  | w :: r, k => by
    unfold ixT
    by_cases h : v = w
    · exact .inr ⟨0, by simp, by rw [if_pos h]; rfl, by simp [h]⟩
    · rw [if_neg h]
      rcases ixT_range v r (k + 1) with e | ⟨j, h1, h2, h3⟩
      · exact .inl e
      · exact .inr ⟨j + 1, by simp; omega, by rw [h2]; omega, by simpa using h3⟩

theorem ixT_drop (v : Bs) (l : List Bs) (k : Nat) (hk : k ≤ l.length) (hn : ∀ j w, j < k → l[j]? = some w → v ≠ w) : ixT v l 0 = ixT v (l.drop k) k := by
  induction k with
  | zero => rfl
  | succ k ih =>
    rw [ih (by omega) fun j w hj => hn j w (by omega)]
    have hc : l.drop k = l[k] :: l.drop (k + 1) := List.drop_eq_getElem_cons (by omega)
    rw [hc]
    show (if v = l[k] then _ else _) = _
    rw [if_neg (hn k l[k] (by omega) (List.getElem?_eq_getElem (by omega)))]

theorem indexT_run (d : Nat) {ws : List Bs} {v : Bs} (h : RT s x ws) (hl : ws.length ≤ 8000) : R (d + 1) 97 [Z x, Z (.str v)] s = some (I .i64 (ixT v ws 0), s) := by
  rw [f97_run]
  unfold f97
  have hlen := h.lens
  obtain ⟨j, τ, lp, hj, hτ⟩ := loops_inv (f := f97_l1 (R d) 8192) (fun q w u => ∃ k : Nat, q + k = ws.length ∧ w = [Z x, Z (.str v), I .i64 ws.length, I .i64 k] ∧ u = s ∧ ∀ j w, j < k → ws[j]? = some w → v ≠ w)
    (fun j u => (j = .exit 0 [] ∧ ixT v ws 0 = -1 ∨ j = .ret (I .i64 (ixT v ws 0))) ∧ u = s) (by
    rintro q w u ⟨k, hk, rfl, rfl, hn⟩
    have hd := ixT_drop v ws k (by omega) hn
    by_cases hkl : k < ws.length
    · have hc : ws[k]? = some ws[k] := List.getElem?_eq_getElem hkl
      have hdr : ws.drop k = ws[k] :: ws.drop (k + 1) := List.drop_eq_getElem_cons hkl
      obtain ⟨p, ix, ld⟩ := RT.atT h (n := (k : Int)) rfl hc
      have c0 : (k : Int) < (ws.length : Int) := by omega
      have w1 : IntKind.i64.wrap ((k : Int) + 1) = ((k + 1 : Nat) : Int) := by rw [wrap_in _ (by omega) (by omega)]; omega
      by_cases he : v = ws[k]
      · right
        have hx : ixT v ws 0 = k := by rw [hd, hdr]; show (if v = ws[k] then _ else _) = _; rw [if_pos he]
        refine ⟨.ret (I .i64 (ixT v ws 0)), u, ?_, (fun v hv => by cases hv), .inr rfl, rfl⟩
        unfold f97_l1
        rw [hx]
        simp [c0, ix, ld, ← he]
      · left
        refine ⟨[Z x, Z (.str v), I .i64 ws.length, I .i64 ((k + 1 : Nat) : Int)], u, q - 1, ?_, by omega, k + 1, by omega, rfl, rfl, fun j w hj hw => ?_⟩
        · unfold f97_l1
          generalize ((k + 1 : Nat) : Int) = K1 at w1 ⊢
          simp [c0, ix, ld, he, w1]
        · by_cases hjk : j = k
          · subst hjk; rw [hc] at hw; cases hw; exact he
          · exact hn j w (by omega) hw
    · right
      have hk' : k = ws.length := by omega
      have c0 : ¬ (k : Int) < (ws.length : Int) := by omega
      refine ⟨.exit 0 [], u, ?_, (fun v hv => by cases hv), .inl ⟨rfl, ?_⟩, rfl⟩
      · unfold f97_l1
        simp [c0]
      · rw [hd, hk', List.drop_length]; rfl) 8192 ws.length [Z x, Z (.str v), I .i64 ws.length, I .i64 0] s ⟨0, rfl, rfl, rfl, fun j w hj => by omega⟩ (by omega)
  subst hτ
  rcases hj with ⟨rfl, he⟩ | rfl
  · rw [he]
    simp [hlen, lp]
  · simp [hlen, lp]

theorem containsT_run (d : Nat) {ws : List Bs} {v : Bs} (h : RT s x ws) (hl : ws.length ≤ 8000) : R (d + 2) 81 [Z x, Z (.str v)] s = some (B (decide (v ∈ ws)), s) := by
  rw [f81_run]
  unfold f81
  have e := indexT_run (v := v) d h hl
  have : decide (0 ≤ ixT v ws 0) = decide (v ∈ ws) := decide_eq_decide.2 (ixT_contains v ws 0)
  simp [e, this]
end
end Go.Proofs.YtlhbidbdmdcdeaaGreatDoor


/-
  A number of digits: what strings.Trim at the digits, strconv.ParseInt at digits, and policy's number compute, in any store. No conditions but those named in each line.
-/
namespace Go.Proofs.YtlhbidbdmdcdeaaGreatDoor
open Go Go.Abs Go.Abs.F
set_option linter.unusedVariables false

def isDig (b : UInt8) : Bool := Nat.ble 48 b.toNat && Nat.ble b.toNat 57
def digits : Bs := [48, 49, 50, 51, 52, 53, 54, 55, 56, 57]
def digitSet : List S := (List.range 256).map fun c => S.bool (Nat.ble 48 c && Nat.ble c 57)
theorem digitSet_len : digitSet.length = 256 := by simp [digitSet]
theorem digitSet_get (b : UInt8) : digitSet[b.toNat]? = some (.bool (isDig b)) := by
  have := b.toNat_lt
  simp [digitSet, isDig, this]

theorem isDig_iff {b : UInt8} : isDig b = true ↔ 48 ≤ b.toNat ∧ b.toNat ≤ 57 := by
  simp [isDig, Nat.ble_eq]

def trimR (l : Bs) : Bs := (l.reverse.dropWhile isDig).reverse
theorem trimR_snoc (l : Bs) (c : UInt8) : trimR (l ++ [c]) = if isDig c then trimR l else l ++ [c] := by
  unfold trimR
  rw [List.reverse_append, List.reverse_singleton, List.singleton_append, List.dropWhile_cons]
  split <;> simp
theorem trimR_nil : trimR [] = [] := rfl

theorem dropWhile_nil (p : UInt8 → Bool) : ∀ l : Bs, l.dropWhile p = [] ↔ ∀ x ∈ l, p x = true
  | [] => by simp
  | a :: r => by
    have ih := dropWhile_nil p r
    rw [List.dropWhile_cons]
    by_cases h : p a = true
    · rw [if_pos h, ih]; simp [h]
    · rw [if_neg h]; simp [h]
theorem dropWhile_hd (p : UInt8 → Bool) : ∀ (l : Bs) (a : UInt8) (r : Bs), l.dropWhile p = a :: r → p a = false
  | [], a, r, h => by simp at h
  | b :: q, a, r, h => by
    rw [List.dropWhile_cons] at h
    by_cases hb : p b = true
    · rw [if_pos hb] at h; exact dropWhile_hd p q a r h
    · rw [if_neg hb] at h; cases h; simpa using hb

theorem trimD_nil (l : Bs) : (trimR l).dropWhile isDig = [] ↔ l.all isDig = true := by
  unfold trimR
  rw [List.all_eq_true]
  constructor
  · intro h
    have h1 := (dropWhile_nil isDig _).1 h
    have h2 : l.reverse.dropWhile isDig = [] := by
      cases hd : l.reverse.dropWhile isDig with
      | nil => rfl
      | cons a r =>
        exfalso
        have e1 := h1 a (by rw [hd]; simp)
        rw [dropWhile_hd isDig _ a r hd] at e1
        cases e1
    intro x hx
    exact (dropWhile_nil isDig _).1 h2 x (by simpa using hx)
  · intro h
    have h2 : l.reverse.dropWhile isDig = [] := (dropWhile_nil isDig _).2 fun x hx => h x (by simpa using hx)
    rw [h2]
    rfl

def valD (l : Bs) : Nat := l.foldl (fun n b => n * 10 + (b.toNat - 48)) 0
theorem valD_snoc (l : Bs) (c : UInt8) : valD (l ++ [c]) = valD l * 10 + (c.toNat - 48) := by simp [valD]
theorem valD_lt : ∀ (n : Nat) (l : Bs), l.length = n → l.all isDig = true → valD l < 10 ^ n
  | 0, l, h, _ => by
    have : l = [] := List.eq_nil_of_length_eq_zero h
    subst this
    decide
  | n + 1, l, h, ha => by
    rcases List.eq_nil_or_concat l with rfl | ⟨r, c, hl⟩
    · simp at h
    · rw [List.concat_eq_append] at hl
      subst hl
      rw [valD_snoc]
      have hr := valD_lt n r (by simpa using h) (by simp at ha; simpa using ha.1)
      have hc : isDig c = true := by simp at ha; exact ha.2
      rw [isDig_iff] at hc
      rw [Nat.pow_succ]
      omega

def numOk (l : Bs) : Bool := Nat.ble 1 l.length && Nat.ble l.length 13 && l.all isDig
def numV (l : Bs) : Nat := match numOk l with
  | true => valD l
  | false => 0

section
variable {s t : St} {x y : S} {l : Bs} {i : Nat} {w : Bool}

theorem aIndexArr_u8 (n : Nat) (b : UInt8) (h : b.toNat < n) (i o : Nat) : aIndexArr n 1 (Z (.ptr i o)) (I .u8 b.toNat) = some (Z (.ptr i (o + b.toNat))) := by
  have h2 : aIdx (I .u8 (b.toNat : Int)) n = some b.toNat := by simp [aIdx, h]
  simp [aIndexArr, h2]

theorem contains_run (d : Nat) (h : s.get i = some (.cells w digitSet)) (b : UInt8) : R (d + 1) 132 [Z (.ptr i 0), I .u8 b.toNat] s = some (B (isDig b), s) := by
  rw [f132_run]
  unfold f132
  have ix := aIndexArr_u8 256 b b.toNat_lt i 0
  have ld : aLoad1 (Z (.ptr i (0 + b.toNat))) s.get = some (B (isDig b)) := aLoad1_of h (by rw [Nat.zero_add]; exact digitSet_get b)
  simp only [aNil_ptr, bd_some, ix, ld]

theorem trimRight_run (d : Nat) (h : s.get i = some (.cells w digitSet)) (hl : l.length ≤ 8000) : R (d + 2) 124 [Z (.str l), Z (.ptr i 0)] s = some (Z (.str (trimR l)), s) := by
  rw [f124_run]
  unfold f124
  obtain ⟨j, τ, lp, hj, hτ⟩ := loops_inv (f := f124_l1 (R (d + 1)) 8192) (fun q v u => ∃ m : Bs, q = m.length ∧ v = [Z (.str m), Z (.ptr i 0)] ∧ u = s ∧ trimR m = trimR l ∧ m.length ≤ l.length)
    (fun j u => j = .exit 0 [Z (.str (trimR l))] ∧ u = s) (by
    rintro q v u ⟨m, rfl, rfl, rfl, hm, hml⟩
    rcases List.eq_nil_or_concat m with rfl | ⟨r, c, hmr⟩
    · right
      refine ⟨_, u, ?_, (fun v hv => by cases hv), rfl, rfl⟩
      unfold f124_l1
      rw [← hm]
      simp [trimR_nil]
    · rw [List.concat_eq_append] at hmr
      have hlen : m.length = r.length + 1 := by rw [hmr]; simp
      have c0 : 0 < m.length := by omega
      have w1 : IntKind.i64.wrap ((m.length : Int) - 1) = (r.length : Int) := by rw [wrap_in _ (by omega) (by omega)]; omega
      have hat : aAtStr (Z (.str m)) (I .i64 (r.length : Int)) = some (I .u8 c.toNat) := at_str rfl (by rw [hmr]; simp)
      have hc := contains_run d h c
      have pc := aPieceStr_hi (l := m) (m := r.length) (n := (r.length : Int)) rfl (by omega)
      have htk : m.take r.length = r := by rw [hmr]; simp
      rw [htk] at pc
      have hs := trimR_snoc r c
      rw [← hmr, hm] at hs
      cases hd : isDig c with
      | true =>
        left
        rw [hd] at hs hc
        refine ⟨[Z (.str r), Z (.ptr i 0)], u, r.length, ?_, by omega, r, rfl, rfl, rfl, by simpa using hs.symm, by omega⟩
        unfold f124_l1
        simp [c0, w1, hat, hc, pc]
      | false =>
        right
        rw [hd] at hs hc
        refine ⟨.exit 0 [Z (.str (trimR l))], u, ?_, (fun v hv => by cases hv), rfl, rfl⟩
        unfold f124_l1
        have : trimR l = m := by rw [hs, hmr]; simp
        rw [this]
        simp [c0, w1, hat, hc]) 8192 l.length [Z (.str l), Z (.ptr i 0)] s ⟨l, rfl, rfl, rfl, rfl, Nat.le_refl _⟩ (by omega)
  subst hτ; subst hj
  simp [lp]

theorem trimLeft_run (d : Nat) (h : s.get i = some (.cells w digitSet)) (hl : l.length ≤ 8000) : R (d + 2) 123 [Z (.str l), Z (.ptr i 0)] s = some (Z (.str (l.dropWhile isDig)), s) := by
  rw [f123_run]
  unfold f123
  obtain ⟨j, τ, lp, hj, hτ⟩ := loops_inv (f := f123_l1 (R (d + 1)) 8192) (fun q v u => ∃ m : Bs, q = m.length ∧ v = [Z (.str m), Z (.ptr i 0)] ∧ u = s ∧ m.dropWhile isDig = l.dropWhile isDig ∧ m.length ≤ l.length)
    (fun j u => j = .exit 0 [Z (.str (l.dropWhile isDig))] ∧ u = s) (by
    rintro q v u ⟨m, rfl, rfl, rfl, hm, hml⟩
    cases m with
    | nil =>
      right
      refine ⟨_, u, ?_, (fun v hv => by cases hv), rfl, rfl⟩
      unfold f123_l1
      rw [← hm]
      simp
    | cons c r =>
      have hat : aAtStr (Z (.str (c :: r))) (I .i64 0) = some (I .u8 c.toNat) := at_str (j := 0) rfl rfl
      have hc := contains_run d h c
      have pc := aPieceStr_lo (l := c :: r) (m := 1) (n := 1) rfl (by simp)
      rw [List.dropWhile_cons] at hm
      cases hd : isDig c with
      | true =>
        left
        rw [hd] at hm hc
        refine ⟨[Z (.str r), Z (.ptr i 0)], u, r.length, ?_, by simp, r, rfl, rfl, rfl, by simpa using hm, by simp at hml; omega⟩
        unfold f123_l1
        simp [hat, hc, pc]
      | false =>
        right
        rw [hd] at hm hc
        refine ⟨.exit 0 [Z (.str (l.dropWhile isDig))], u, ?_, (fun v hv => by cases hv), rfl, rfl⟩
        unfold f123_l1
        have : l.dropWhile isDig = c :: r := by rw [← hm]; simp
        rw [this]
        simp [hat, hc]) 8192 l.length [Z (.str l), Z (.ptr i 0)] s ⟨l, rfl, rfl, rfl, rfl, Nat.le_refl _⟩ (by omega)
  subst hτ; subst hj
  simp [lp]

theorem setRange_all {vs xs : List S} (h : vs.length = xs.length) : setRange vs 0 xs = xs := by
  rw [setRange_eq _ _ _ (by omega), List.take_zero, List.nil_append, List.drop_eq_nil_of_le (by omega), List.append_nil]

theorem makeSet_run (d : Nat) : R (d + 1) 122 [Z (.str digits)] s = some (.tup [.agg digitSet, .s (.bool true)], s) := runQ_prim (prim_set _)

set_option maxRecDepth 100000 in
theorem trim_run (d : Nat) (wf : s.wf) (h0 : l ≠ []) (hl : l.length ≤ 8000) : ∃ t, R (d + 4) 108 [Z (.str l), Z (.str digits)] s = some (Z (.str ((trimR l).dropWhile isDig)), t) ∧ Gr s t := by
  rw [f108_run]
  unfold f108
  generalize hq : nCells _ = q
  obtain ⟨z, rfl, hz⟩ : ∃ z : List S, q = nCells z ∧ z.length = 256 := ⟨_, hq.symm, rfl⟩
  clear hq
  have e1 := makeSet_run (s := s) (d + 2)
  have nw : aNew s (nCells z) = some (Z (.ptr s.size 0), s.push (.cells true z)) := rfl
  have hb : (V.agg digitSet).cells.length = 256 ∧ 0 + 256 ≤ z.length := ⟨digitSet_len, by omega⟩
  obtain ⟨t, ht⟩ : ∃ t, t = (s.push (.cells true z)).set s.size (.cells true digitSet) := ⟨_, rfl⟩
  have st : aStore 256 (Z (.ptr s.size 0)) (.v (.agg digitSet)) (s.push (.cells true z)) = some (tt, t) := by
    simp only [aStore, St.get_push_same, if_pos hb]
    rw [show (V.agg digitSet).cells = digitSet from rfl, setRange_all (by rw [hz, digitSet_len]), ← ht]
  have g : Gr s t := by
    rw [ht]
    exact ⟨St.wf_set (St.wf_push wf _) (by simp) _, by simp, fun b hb => by rw [St.get_set_ne _ _ (by omega), St.get_push_ne _ _ (by omega)]⟩
  have gn : t.get s.size = some (.cells true digitSet) := by rw [ht]; exact St.get_set_same _ _ _
  have r1 := trimRight_run (l := l) (d + 1) gn hl
  have hl2 : (trimR l).length ≤ 8000 := by
    have : (trimR l).length ≤ l.length := by
      unfold trimR
      rw [List.length_reverse]
      have := (List.dropWhile_sublist (p := isDig) (l := l.reverse)).length_le
      simpa using this
    omega
  have r2 := trimLeft_run (l := trimR l) (d + 1) gn hl2
  have hd : ¬ digits = [] := by decide
  have hdl : (digits.length : Int) = 10 := rfl
  refine ⟨t, ?_, g⟩
  simp only [Nat.add_assoc, Nat.reduceAdd] at e1 r1 r2
  generalize R (d + 3) = r at *
  generalize digits = dg at *
  simp [h0, hd, hdl, e1, aExtract, nw, st, r1, r2]

theorem parseUint_run (d : Nat) (wf : s.wf) (h0 : l ≠ []) (hl : l.length ≤ 13) (hd : l.all isDig = true) : ∃ t, R (d + 1) 135 [Z (.str l), I .i64 10, I .i64 64] s = some (.tup [.s (.int .u64 (valD l)), .s .nili], t) ∧ Gr s t := by
  rw [f135_run]
  unfold f135
  obtain ⟨t, ht⟩ : ∃ t, t = s.push (.cells false (U l)) := ⟨_, rfl⟩
  have nw : aNew s (nBytes (Z (.str l))) = some (Z (.sl s.size 0 l.length (.grown 1)), t) := by rw [ht]; rfl
  have g : Gr s t := by rw [ht]; exact Gr.push wf _
  have rb : RB t (.sl s.size 0 l.length (.grown 1)) l := ⟨by simp, .inr ⟨s.size, 0, _, false, U l, rfl, by rw [ht]; exact St.get_push_same _ _, by simp, by rw [List.drop_zero]; exact List.take_of_length_le (by simp)⟩, rfl⟩
  have hv := valD_lt
  have hdg : ∀ (k : Nat) (b : UInt8), l[k]? = some b → 48 ≤ b.toNat ∧ b.toNat ≤ 57 := fun k b hb => by
    rw [List.all_eq_true] at hd
    exact isDig_iff.1 (hd b (List.mem_of_getElem? hb))
  have hvt : ∀ k, k ≤ 13 → valD (l.take k) < 10000000000000 := fun k hk => by
    have h1 := valD_lt (l.take k).length (l.take k) rfl (by rw [List.all_eq_true] at hd ⊢; exact fun x hx => hd x (List.mem_of_mem_take hx))
    have h2 : 10 ^ (l.take k).length ≤ 10 ^ 13 := Nat.pow_le_pow_right (by omega) (by rw [List.length_take]; omega)
    have h3 : (10 : Nat) ^ 13 = 10000000000000 := by decide
    omega
  obtain ⟨j, τ, lp, hj, hτ⟩ := loops_inv (f := f135_l1 (R d) 8192) (fun q v u => ∃ k : Nat, q + k = l.length ∧ v = [I .i64 10, B false, Z (.str l), I .u64 1844674407370955162, I .u64 18446744073709551615, B false, I .u64 (valD (l.take k)), Z (.sl s.size 0 l.length (.grown 1)), I .i64 l.length, I .i64 k] ∧ u = t)
    (fun j u => j = .exit 3 [Z (.str l), B false, I .u64 (valD l)] ∧ u = t) (by
    rintro q v u ⟨k, hk, rfl, rfl⟩
    by_cases hkl : k < l.length
    · left
      have hc : l[k]? = some l[k] := List.getElem?_eq_getElem hkl
      obtain ⟨p, ix, ld⟩ := RB.atB rb (n := (k : Int)) rfl hc
      obtain ⟨d1, d2⟩ := hdg k _ hc
      have c0 : (k : Int) < (l.length : Int) := by omega
      have w1 : IntKind.i64.wrap ((k : Int) + 1) = ((k + 1 : Nat) : Int) := by rw [wrap_in _ (by omega) (by omega)]; omega
      have hsn : valD (l.take (k + 1)) = valD (l.take k) * 10 + (l[k].toNat - 48) := by rw [List.take_add_one, hc, Option.toList_some, valD_snoc]
      have hb0 := hvt k (by omega)
      have hb1 := hvt (k + 1) (by omega)
      have k1 : ¬ ((l[k].toNat : Int) = 95) := by omega
      have k2 : (48 : Int) ≤ (l[k].toNat : Int) := by omega
      have k3 : (l[k].toNat : Int) ≤ 57 := by omega
      obtain ⟨D, hD⟩ : ∃ D : Int, D = (l[k].toNat : Int) - 48 := ⟨_, rfl⟩
      have w8 : IntKind.u8.wrap ((l[k].toNat : Int) - 48) = D := by
        have := wrap8 (l[k].toNat - 48)
        rw [show (((l[k].toNat - 48 : Nat)) : Int) = (l[k].toNat : Int) - 48 by omega] at this
        rw [this, hD]
        omega
      have w10 : IntKind.u8.wrap 10 = 10 := rfl
      have w10' : IntKind.u64.wrap 10 = 10 := rfl
      have k4 : ¬ (10 : Int) ≤ D := by omega
      have k5 : ¬ (1844674407370955162 : Int) ≤ (valD (l.take k) : Int) := by omega
      have wm : IntKind.u64.wrap ((valD (l.take k) : Int) * 10) = (valD (l.take k) : Int) * 10 := wrap_u64_in _ (by omega) (by omega)
      have wd : IntKind.u64.wrap D = D := wrap_u64_in _ (by omega) (by omega)
      have wa : IntKind.u64.wrap ((valD (l.take k) : Int) * 10 + D) = (valD (l.take (k + 1)) : Int) := by
        rw [wrap_u64_in _ (by omega) (by omega), hsn]
        omega
      have k6 : ¬ ((valD (l.take (k + 1)) : Int) < (valD (l.take k) : Int) * 10) := by omega
      have k7 : ¬ ((18446744073709551615 : Int) < (valD (l.take (k + 1)) : Int)) := by omega
      refine ⟨[I .i64 10, B false, Z (.str l), I .u64 1844674407370955162, I .u64 18446744073709551615, B false, I .u64 (valD (l.take (k + 1))), Z (.sl s.size 0 l.length (.grown 1)), I .i64 l.length, I .i64 ((k + 1 : Nat) : Int)], u, q - 1, ?_, by omega, k + 1, by omega, rfl, rfl⟩
      unfold f135_l1
      generalize ((k + 1 : Nat) : Int) = K1 at w1 ⊢
      generalize (valD (l.take (k + 1)) : Int) = V1 at wa k6 k7 ⊢
      generalize (valD (l.take k) : Int) = V0 at k5 wm wa k6 ⊢
      generalize (l[k].toNat : Int) = C at ld k1 k2 k3 w8
      generalize (k : Int) = K at *
      generalize (l.length : Int) = L at *
      simp [c0, ix, ld, k1, k2, k3, w8, w10, w10', k4, k5, wm, wd, wa, k6, k7, w1]
    · right
      have hk' : k = l.length := by omega
      subst hk'
      refine ⟨.exit 3 [Z (.str l), B false, I .u64 (valD l)], u, ?_, (fun v hv => by cases hv), rfl, rfl⟩
      unfold f135_l1
      rw [List.take_length]
      simp) 8192 l.length [I .i64 10, B false, Z (.str l), I .u64 1844674407370955162, I .u64 18446744073709551615, B false, I .u64 0, Z (.sl s.size 0 l.length (.grown 1)), I .i64 l.length, I .i64 0] t ⟨0, rfl, rfl, rfl⟩ (by omega)
  subst hτ; subst hj
  refine ⟨τ, ?_, g⟩
  have w64 : IntKind.u64.wrap 64 = 64 := rfl
  have sh : aBin .shl (I .u64 1) (I .u64 64) = some (I .u64 0) := by rfl
  have sb : IntKind.u64.wrap (-1) = 18446744073709551615 := by rfl
  simp [h0, w64, sh, sb, nw, lp, retT, allV]

theorem parseInt_run (d : Nat) (wf : s.wf) (h0 : l ≠ []) (hl : l.length ≤ 13) (hd : l.all isDig = true) : ∃ t, R (d + 3) 109 [Z (.str l), I .i64 10, I .i64 64] s = some (.tup [.s (.int .i64 (valD l)), .s .nili], t) ∧ Gr s t := by
  obtain ⟨t, e, g⟩ := parseUint_run d wf h0 hl hd
  have hv := valD_lt l.length l rfl hd
  have h13 : 10 ^ l.length ≤ 10 ^ 13 := Nat.pow_le_pow_right (by omega) hl
  have h3 : (10 : Nat) ^ 13 = 10000000000000 := by decide
  have key : R (d + 2) 127 [Z (.str l), I .i64 10, I .i64 64] s = some (.tup [.s (.int .i64 (valD l)), .s .nili], t) := by
    rw [f127_run]
    unfold f127
    obtain ⟨c, r, rfl⟩ : ∃ c r, l = c :: r := by cases l with
      | nil => exact absurd rfl h0
      | cons c r => exact ⟨c, r, rfl⟩
    have hat : aAtStr (Z (.str (c :: r))) (I .i64 0) = some (I .u8 c.toNat) := at_str (j := 0) rfl rfl
    have hc : 48 ≤ c.toNat ∧ c.toNat ≤ 57 := isDig_iff.1 (by simp at hd; exact hd.1)
    have k1 : ¬ ((c.toNat : Int) = 43) := by omega
    have k2 : ¬ ((c.toNat : Int) = 45) := by omega
    have n1 : neB .i (Z .nili) (Z .nili) = some (B false) := rfl
    have w63 : IntKind.u64.wrap 63 = 63 := rfl
    have sh : aBin .shl (I .u64 1) (I .u64 63) = some (I .u64 9223372036854775808) := by rfl
    have k3 : ¬ ((9223372036854775808 : Int) ≤ (valD (c :: r) : Int)) := by omega
    have wv : IntKind.i64.wrap (valD (c :: r) : Int) = (valD (c :: r) : Int) := wrap_in _ (by omega) (by omega)
    have w64 : IntKind.i64.wrap 63 = 63 := rfl
    generalize (valD (c :: r) : Int) = V at *
    generalize (c.toNat : Int) = C at *
    generalize R (d + 1) = rr at *
    simp [hat, k1, k2, e, aExtract, n1, w63, w64, sh, k3, wv, retT, allV]
  refine ⟨t, ?_, g⟩
  rw [f109_run]
  unfold f109
  have n1 : neB .i (Z .nili) (Z .nili) = some (B false) := rfl
  simp [key, aExtract, n1, retT, allV]

theorem number_run (d : Nat) (wf : s.wf) : ∃ t, R (d + 5) 96 [Z (.str l)] s = some (.tup [.s (.int .i64 (numV l)), .s (.bool (numOk l))], t) ∧ Gr s t := by
  rw [f96_run]
  unfold f96
  by_cases h1 : 1 ≤ l.length
  · by_cases h2 : l.length ≤ 13
    · have hne : l ≠ [] := fun e => by rw [e] at h1; simp at h1
      obtain ⟨t, e1, g1⟩ := trim_run d wf hne (by omega)
      have c1 : ¬ ((l.length : Int) < 1) := by omega
      have c2 : ¬ ((13 : Int) < (l.length : Int)) := by omega
      have hb1 : Nat.ble 1 l.length = true := Nat.ble_eq_true_of_le h1
      have hb2 : Nat.ble l.length 13 = true := Nat.ble_eq_true_of_le h2
      by_cases hall : l.all isDig = true
      · have hnil := (trimD_nil l).2 hall
        rw [hnil] at e1
        obtain ⟨t2, e2, g2⟩ := parseInt_run (l := l) (d + 1) g1.wf hne h2 hall
        have hok : numOk l = true := by simp [numOk, hb1, hb2, hall]
        have hv : numV l = valD l := by simp [numV, hok]
        have n1 : eqB .i (Z .nili) (Z .nili) = some (B true) := rfl
        refine ⟨t2, ?_, g1.trans g2⟩
        rw [hok, hv]
        simp only [digits] at e1
        generalize R (d + 4) = r at *
        simp [c1, c2, e1, e2, aExtract, n1, retT, allV]
      · have hnn : ¬ ((trimR l).dropWhile isDig = []) := fun e => hall ((trimD_nil l).1 e)
        have hok : numOk l = false := by simp only [numOk, hb1, hb2, Bool.true_and]; simpa using hall
        have hv : numV l = 0 := by simp [numV, hok]
        refine ⟨t, ?_, g1⟩
        rw [hok, hv]
        simp only [digits] at e1
        generalize R (d + 4) = r at *
        simp [c1, c2, e1, hnn, retT, allV]
    · have c1 : ¬ ((l.length : Int) < 1) := by omega
      have c2 : (13 : Int) < (l.length : Int) := by omega
      have hok : numOk l = false := by
        have : Nat.ble l.length 13 = false := by
          rw [Bool.eq_false_iff]
          intro h
          exact h2 (Nat.le_of_ble_eq_true h)
        simp [numOk, this]
      have hv : numV l = 0 := by simp [numV, hok]
      refine ⟨s, ?_, Gr.refl wf⟩
      rw [hok, hv]
      simp [c1, c2, retT, allV]
  · have c1 : ((l.length : Int) < 1) := by omega
    have hok : numOk l = false := by
      have : Nat.ble 1 l.length = false := by
        rw [Bool.eq_false_iff]
        intro h
        exact h1 (Nat.le_of_ble_eq_true h)
      simp [numOk, this]
    have hv : numV l = 0 := by simp [numV, hok]
    refine ⟨s, ?_, Gr.refl wf⟩
    rw [hok, hv]
    simp [c1, retT, allV]
end
end Go.Proofs.YtlhbidbdmdcdeaaGreatDoor


/-
  Policies: what policy.Default, May, line and Parse compute, in any store. No conditions but those named in each line.
-/
namespace Go.Proofs.YtlhbidbdmdcdeaaGreatDoor
open Go Go.Abs Go.Abs.F
set_option linter.unusedVariables false

structure Pol where
  a0 : Int
  a1 : Int
  a2 : Int
  a3 : Int
  c : Int
  n : Int
  deriving DecidableEq

def cP (p : Pol) : List S := [.int .i64 p.a0, .int .i64 p.a1, .int .i64 p.a2, .int .i64 p.a3, .int .i64 p.c, .int .i64 p.n]
abbrev AP (p : Pol) : T := .v (.agg (cP p))
def pol0 : Pol := ⟨0, 0, 0, 0, 0, 0⟩
def polD : Pol := ⟨60, 600, 6000, 0, 8, 30⟩

def ageOk (n : Int) : Bool := decide (0 ≤ n) && decide (n ≤ 1099511627776)
def nxtOk (was n : Int) : Bool := decide (n = 0) || (decide (was ≤ n) && !decide (was = 0))
def agesOk (p : Pol) : Bool := ageOk p.a0 && (ageOk p.a1 && nxtOk p.a0 p.a1) && (ageOk p.a2 && nxtOk p.a1 p.a2) && (ageOk p.a3 && nxtOk p.a2 p.a3)
def mayP (p : Pol) : Bool := agesOk p && decide (p.a3 = 0) && decide (1 ≤ p.c) && decide (p.c ≤ 64) && decide (1 ≤ p.n) && decide (p.n ≤ 200)

section
variable {s t : St} {x y : S} {l : Bs} {i : Nat}

theorem store6 {i : Nat} {vs : List S} {p : Pol} (h : s.get i = some (.cells true vs)) (hv : vs.length = 6) : aStore 6 (Z (.ptr i 0)) (AP p) s = some (tt, s.set i (.cells true (cP p))) := by
  have hb : (V.agg (cP p)).cells.length = 6 ∧ 0 + 6 ≤ vs.length := ⟨rfl, by omega⟩
  simp only [aStore, h, if_pos hb]
  rw [show (V.agg (cP p)).cells = cP p from rfl, setRange_all (by rw [hv]; rfl)]
theorem load6 {i : Nat} {w : Bool} {p : Pol} {g : Mem} (h : g i = some (.cells w (cP p))) : aLoadN 6 (Z (.ptr i 0)) g = some (AP p) := by
  simp [aLoadN, h, cP]
theorem agg6 : asAggT (aFill [.int .i64 0, .int .i64 0, .int .i64 0, .int .i64 0, .int .i64 0, .int .i64 0] []) = some (AP pol0) := rfl

theorem gtt (b : Bool) : gd tt b = some false := rfl

theorem default_run (d : Nat) (wf : s.wf) : ∃ t, R (d + 1) 49 [] s = some (AP polD, t) ∧ Gr s t := by
  rw [f49_run]
  unfold f49
  have e1 : asAggT (aFill [.int .i64 0, .int .i64 0, .int .i64 0, .int .i64 0] [(0, 1, (I .i64 60)), (1, 1, (I .i64 600)), (2, 1, (I .i64 6000)), (3, 1, (I .i64 0))]) = some (.v (.agg [.int .i64 60, .int .i64 600, .int .i64 6000, .int .i64 0])) := rfl
  have e2 : asAggT (aFill [.int .i64 0, .int .i64 0, .int .i64 0, .int .i64 0, .int .i64 0, .int .i64 0] [(0, 4, .v (.agg [.int .i64 60, .int .i64 600, .int .i64 6000, .int .i64 0])), (4, 1, (I .i64 8)), (5, 1, (I .i64 30))]) = some (AP polD) := rfl
  obtain ⟨s1, hs1⟩ : ∃ s1, s1 = s.push (.cells true (cP pol0)) := ⟨_, rfl⟩
  have nw : aNew s (nCells [.int .i64 0, .int .i64 0, .int .i64 0, .int .i64 0, .int .i64 0, .int .i64 0]) = some (Z (.ptr s.size 0), s1) := by rw [hs1]; rfl
  have h1 : s1.get s.size = some (.cells true (cP pol0)) := by rw [hs1]; exact St.get_push_same _ _
  obtain ⟨s2, hs2⟩ : ∃ s2, s2 = s1.set s.size (.cells true (cP polD)) := ⟨_, rfl⟩
  have st := store6 (p := polD) h1 rfl
  rw [← hs2] at st
  have h2 : s2.get s.size = some (.cells true (cP polD)) := by rw [hs2]; exact St.get_set_same _ _ _
  have ld := load6 (g := s2.get) h2
  refine ⟨s2, ?_, ?_⟩
  · simp [nw, e1, e2, st, ld, rC, retT]
  · rw [hs2, hs1]
    exact ⟨St.wf_set (St.wf_push wf _) (by simp) _, by simp, fun b hb => by rw [St.get_set_ne _ _ (by omega), St.get_push_ne _ _ (by omega)]⟩

def ageAt (p : Pol) : Nat → Int
  | 0 => p.a0
  | 1 => p.a1
  | 2 => p.a2
  | _ => p.a3
def okAt (p : Pol) : Nat → Bool
  | 0 => ageOk p.a0
  | 1 => ageOk p.a1 && nxtOk p.a0 p.a1
  | 2 => ageOk p.a2 && nxtOk p.a1 p.a2
  | _ => ageOk p.a3 && nxtOk p.a2 p.a3
theorem agesOk_iff (p : Pol) : agesOk p = true ↔ ∀ j, j < 4 → okAt p j = true := by
  constructor
  · intro h j hj
    simp only [agesOk, Bool.and_eq_true] at h
    match j, hj with
    | 0, _ => exact h.1.1.1
    | 1, _ => simp only [okAt, Bool.and_eq_true]; exact h.1.1.2
    | 2, _ => simp only [okAt, Bool.and_eq_true]; exact h.1.2
    | 3, _ => simp only [okAt, Bool.and_eq_true]; exact h.2
  · intro h
    have h0 := h 0 (by omega)
    have h1 := h 1 (by omega)
    have h2 := h 2 (by omega)
    have h3 := h 3 (by omega)
    simp only [okAt] at h0 h1 h2 h3
    simp only [agesOk, h0, h1, h2, h3, Bool.and_self]

theorem may_run (d : Nat) (wf : s.wf) (p : Pol) : ∃ t, R (d + 1) 82 [AP p] s = some (B (mayP p), t) ∧ Gr s t := by
  rw [f82_run]
  unfold f82
  obtain ⟨s1, hs1⟩ : ∃ s1, s1 = s.push (.cells true (cP p)) := ⟨_, rfl⟩
  have nw : aNew s (nBox (AP p)) = some (Z (.ptr s.size 0), s1) := by rw [hs1]; rfl
  have h1 : s1.get s.size = some (.cells true (cP p)) := by rw [hs1]; exact St.get_push_same _ _
  have g : Gr s s1 := by rw [hs1]; exact Gr.push wf _
  have l4 : aLoadN 4 (Z (.ptr s.size 0)) s1.get = some (.v (.agg [.int .i64 p.a0, .int .i64 p.a1, .int .i64 p.a2, .int .i64 p.a3])) := by simp [aLoadN, h1, cP]
  have ld : ∀ j, j < 4 → aLoad1 (Z (.ptr s.size j)) s1.get = some (I .i64 (ageAt p j)) := fun j hj => by
    match j, hj with
    | 0, _ => exact aLoad1_of h1 rfl
    | 1, _ => exact aLoad1_of h1 rfl
    | 2, _ => exact aLoad1_of h1 rfl
    | 3, _ => exact aLoad1_of h1 rfl
  have ld4 : aLoad1 (Z (.ptr s.size 4)) s1.get = some (I .i64 p.c) := aLoad1_of h1 rfl
  have ld5 : aLoad1 (Z (.ptr s.size 5)) s1.get = some (I .i64 p.n) := aLoad1_of h1 rfl
  have at4 : ∀ j, j < 4 → aAtArr none 4 1 (.v (.agg [.int .i64 p.a0, .int .i64 p.a1, .int .i64 p.a2, .int .i64 p.a3])) (I .i64 (j : Nat)) = some (I .i64 (ageAt p j)) := fun j hj => by
    match j, hj with
    | 0, _ => rfl
    | 1, _ => rfl
    | 2, _ => rfl
    | 3, _ => rfl
  have ix : ∀ j : Nat, j < 4 → aIndexArr 4 1 (Z (.ptr s.size 0)) (I .i64 (j : Nat)) = some (Z (.ptr s.size j)) := fun j hj => by
    match j, hj with
    | 0, _ => rfl
    | 1, _ => rfl
    | 2, _ => rfl
    | 3, _ => rfl
  obtain ⟨j, τ, lp, hj, hτ⟩ := loops_inv (f := f82_l1 (R d) 8192) (fun q v u => ∃ k : Nat, q + k = 4 ∧ v = [Z (.ptr s.size 0), .v (.agg [.int .i64 p.a0, .int .i64 p.a1, .int .i64 p.a2, .int .i64 p.a3]), I .i64 k] ∧ u = s1 ∧ ∀ j, j < k → okAt p j = true)
    (fun j u => (j = .exit 0 [Z (.ptr s.size 0)] ∧ agesOk p = true ∨ j = .ret (B false) ∧ agesOk p = false) ∧ u = s1) (by
    rintro q v u ⟨k, hk, rfl, rfl, hok⟩
    by_cases hk4 : k < 4
    · have bad : okAt p k = false → agesOk p = false := fun h => by
        rw [Bool.eq_false_iff]
        intro h2
        rw [(agesOk_iff p).1 h2 k hk4] at h
        cases h
      have next : okAt p k = true → ∀ j, j < k + 1 → okAt p j = true := fun h j hj => by
        by_cases e : j = k
        · subst e; exact h
        · exact hok j (by omega)
      have c0 : (k : Int) < 4 := by omega
      have w1 : IntKind.i64.wrap ((k : Int) + 1) = ((k + 1 : Nat) : Int) := by rw [wrap_in _ (by omega) (by omega)]; omega
      have hat := at4 k hk4
      obtain ⟨a, ha⟩ : ∃ a, a = ageAt p k := ⟨_, rfl⟩
      rw [← ha] at hat
      have hage : okAt p k = (ageOk a && (decide (k = 0) || nxtOk (ageAt p (k - 1)) a)) := by
        rw [ha]
        match k, hk4 with
        | 0, _ => simp [okAt, ageAt]
        | 1, _ => simp [okAt, ageAt]
        | 2, _ => simp [okAt, ageAt]
        | 3, _ => simp [okAt, ageAt]
      by_cases c1 : a < 0
      · right
        have : okAt p k = false := by
          have : ¬ 0 ≤ a := by omega
          rw [hage]; simp [ageOk, this]
        refine ⟨.ret (B false), u, ?_, (fun v hv => by cases hv), .inr ⟨rfl, bad this⟩, rfl⟩
        unfold f82_l1
        simp [c0, hat, c1]
      · by_cases c2 : 1099511627776 < a
        · right
          have : okAt p k = false := by
            have : ¬ a ≤ 1099511627776 := by omega
            rw [hage]; simp [ageOk, this]
          refine ⟨.ret (B false), u, ?_, (fun v hv => by cases hv), .inr ⟨rfl, bad this⟩, rfl⟩
          unfold f82_l1
          simp [c0, hat, c1, c2]
        · have hA : ageOk a = true := by
            have h1 : 0 ≤ a := by omega
            have h2 : a ≤ 1099511627776 := by omega
            simp [ageOk, h1, h2]
          by_cases k0 : k = 0
          · left
            have : okAt p k = true := by rw [hage]; simp [hA, k0]
            refine ⟨[Z (.ptr s.size 0), .v (.agg [.int .i64 p.a0, .int .i64 p.a1, .int .i64 p.a2, .int .i64 p.a3]), I .i64 ((k + 1 : Nat) : Int)], u, q - 1, ?_, by omega, k + 1, by omega, rfl, rfl, next this⟩
            unfold f82_l1
            subst k0
            have hat0 : aAtArr none 4 1 (.v (.agg [.int .i64 p.a0, .int .i64 p.a1, .int .i64 p.a2, .int .i64 p.a3])) (I .i64 0) = some (I .i64 a) := hat
            have w0 : IntKind.i64.wrap 1 = 1 := rfl
            simp [hat0, c1, c2, w0]
          · obtain ⟨b, hb⟩ : ∃ b, b = ageAt p (k - 1) := ⟨_, rfl⟩
            rw [← hb] at hage
            have ck0 : ¬ (k : Int) = 0 := by omega
            have w2 : IntKind.i64.wrap ((k : Int) - 1) = ((k - 1 : Nat) : Int) := by rw [wrap_in _ (by omega) (by omega)]; omega
            have ix1 := ix (k - 1) (by omega)
            have ld1 := ld (k - 1) (by omega)
            rw [← hb] at ld1
            by_cases c3 : a = 0
            · left
              have : okAt p k = true := by rw [hage, hA]; simp [nxtOk, c3]
              refine ⟨[Z (.ptr s.size 0), .v (.agg [.int .i64 p.a0, .int .i64 p.a1, .int .i64 p.a2, .int .i64 p.a3]), I .i64 ((k + 1 : Nat) : Int)], u, q - 1, ?_, by omega, k + 1, by omega, rfl, rfl, next this⟩
              unfold f82_l1
              subst c3
              generalize ((k + 1 : Nat) : Int) = K1 at w1 ⊢
              generalize ((k - 1 : Nat) : Int) = K0 at w2 ix1
              generalize (k : Int) = K at *
              simp [c0, hat, ck0, w2, ix1, ld1, w1, gtt]
            · by_cases c4 : a < b
              · right
                have : okAt p k = false := by
                  have h1 : ¬ b ≤ a := by omega
                  rw [hage]; simp [hA, nxtOk, c3, h1, k0]
                refine ⟨.ret (B false), u, ?_, (fun v hv => by cases hv), .inr ⟨rfl, bad this⟩, rfl⟩
                unfold f82_l1
                generalize ((k - 1 : Nat) : Int) = K0 at w2 ix1
                generalize (k : Int) = K at *
                simp [c0, hat, c1, c2, ck0, w2, ix1, ld1, c3, c4]
              · by_cases c5 : b = 0
                · right
                  have : okAt p k = false := by rw [hage]; simp [hA, nxtOk, c3, c5, k0]
                  refine ⟨.ret (B false), u, ?_, (fun v hv => by cases hv), .inr ⟨rfl, bad this⟩, rfl⟩
                  unfold f82_l1
                  generalize ((k - 1 : Nat) : Int) = K0 at w2 ix1
                  generalize (k : Int) = K at *
                  simp [c0, hat, c1, c2, ck0, w2, ix1, ld1, c3, c4, c5]
                · left
                  have : okAt p k = true := by
                    have h1 : b ≤ a := by omega
                    rw [hage]; simp [hA, nxtOk, h1, c5]
                  refine ⟨[Z (.ptr s.size 0), .v (.agg [.int .i64 p.a0, .int .i64 p.a1, .int .i64 p.a2, .int .i64 p.a3]), I .i64 ((k + 1 : Nat) : Int)], u, q - 1, ?_, by omega, k + 1, by omega, rfl, rfl, next this⟩
                  unfold f82_l1
                  generalize ((k + 1 : Nat) : Int) = K1 at w1 ⊢
                  generalize ((k - 1 : Nat) : Int) = K0 at w2 ix1
                  generalize (k : Int) = K at *
                  simp [c0, hat, c1, c2, ck0, w2, ix1, ld1, c3, c4, c5, w1]
    · right
      have hk' : k = 4 := by omega
      subst hk'
      refine ⟨.exit 0 [Z (.ptr s.size 0)], u, ?_, (fun v hv => by cases hv), .inl ⟨rfl, (agesOk_iff p).2 hok⟩, rfl⟩
      unfold f82_l1
      simp) 8192 4 [Z (.ptr s.size 0), .v (.agg [.int .i64 p.a0, .int .i64 p.a1, .int .i64 p.a2, .int .i64 p.a3]), I .i64 0] s1 ⟨0, rfl, rfl, rfl, fun j hj => by omega⟩ (by omega)
  subst hτ
  refine ⟨τ, ?_, g⟩
  have ix3 : aIndexArr 4 1 (Z (.ptr s.size 0)) (I .i64 3) = some (Z (.ptr s.size 3)) := rfl
  have ld3 := ld 3 (by omega)
  generalize (T.v (.agg [.int .i64 p.a0, .int .i64 p.a1, .int .i64 p.a2, .int .i64 p.a3])) = L at l4 lp
  rcases hj with ⟨rfl, ha⟩ | ⟨rfl, ha⟩
  · have hm : mayP p = (decide (p.a3 = 0) && decide (1 ≤ p.c) && decide (p.c ≤ 64) && decide (1 ≤ p.n) && decide (p.n ≤ 200)) := by simp [mayP, ha]
    rw [hm]
    by_cases d1 : p.a3 = 0
    · by_cases d2 : 1 ≤ p.c
      · by_cases d3 : p.c ≤ 64
        · by_cases d4 : 1 ≤ p.n
          · simp [nw, l4, lp, ix3, ld3, ld4, ld5, ageAt, d1, d2, d3, d4]
          · simp [nw, l4, lp, ix3, ld3, ld4, ld5, ageAt, d1, d2, d3, d4]
        · simp [nw, l4, lp, ix3, ld3, ld4, ld5, ageAt, d1, d2, d3]
      · simp [nw, l4, lp, ix3, ld3, ld4, ld5, ageAt, d1, d2]
    · simp [nw, l4, lp, ix3, ld3, ageAt, d1]
  · have hm : mayP p = false := by simp [mayP, ha]
    rw [hm]
    simp [nw, l4, lp]

/-! ### A line -/

def tNames : List Bs := [[114, 97, 119], [53, 109], [49, 104], [49, 100]]
def kKeep : Bs := [107, 101, 101, 112]
def kSeal : Bs := [115, 101, 97, 108]
def kSpan : Bs := [115, 112, 97, 110]
def kEver : Bs := [101, 118, 101, 114]

theorem names_run (d : Nat) (wf : s.wf) : ∃ x t, R (d + 1) 98 [] s = some (Z x, t) ∧ FT s t x tNames := by
  rw [f98_run]
  unfold f98
  refine ⟨.sl s.size 0 4 (.known 4), s.push (.cells true (strS tNames)), ?_, Fr.lit 1 wf rfl⟩
  simp [aNew, nSlice, aFill, V.cells, setRange, strS, tNames]

def setAge (p : Pol) (k : Int) (n : Int) : Pol :=
  if k = 0 then { p with a0 := n } else if k = 1 then { p with a1 := n } else if k = 2 then { p with a2 := n } else { p with a3 := n }

def lineP (p : Pol) (ws : List Bs) : Option Pol :=
  let last := ws.getD (ws.length - 1) []
  if ws.getD 0 [] = kKeep ∧ ws.length = 3 then
    if ixT (ws.getD 1 []) tNames 0 < 0 ∨ (numOk last = false ∧ ws.getD 2 [] ≠ kEver) then none else some (setAge p (ixT (ws.getD 1 []) tNames 0) (numV last))
  else if ws.getD 0 [] = kSeal ∧ ws.length = 2 ∧ numOk last = true then some { p with c := numV last }
  else if ws.getD 0 [] = kSpan ∧ ws.length = 2 ∧ numOk last = true then some { p with n := numV last }
  else none

def But (i : Nat) (s t : St) : Prop := t.wf ∧ s.size ≤ t.size ∧ ∀ b, b < s.size → b ≠ i → t.get b = s.get b
theorem Gr.but {s t : St} (h : Gr s t) (i : Nat) : But i s t := ⟨h.1, h.2.1, fun b hb _ => h.2.2 b hb⟩
theorem But.trans {i : Nat} {a b c : St} (h : But i a b) (k : But i b c) : But i a c := ⟨k.1, Nat.le_trans h.2.1 k.2.1, fun x hx hi => by rw [k.2.2 x (Nat.lt_of_lt_of_le hx h.2.1) hi, h.2.2 x hx hi]⟩
theorem But.set {i : Nat} {s : St} (wf : s.wf) (hi : i < s.size) (b : Blk) : But i s (s.set i b) := ⟨St.wf_set wf hi _, by simp, fun c hc hne => St.get_set_ne _ _ hne⟩

theorem set_age {p : Pol} {j : Nat} {n : Int} (hj : j < 4) : setRange (cP p) j [.int .i64 n] = cP (setAge p (j : Nat) n) := by
  match j, hj with
  | 0, _ => rfl
  | 1, _ => rfl
  | 2, _ => rfl
  | 3, _ => rfl

theorem line_run (d : Nat) (wf : s.wf) {p : Pol} {ws : List Bs} (hp : s.get i = some (.cells true (cP p))) (hx : RT s x ws) (hox : ∀ c, own x = some c → c < s.size ∧ c ≠ i) (hne : ws ≠ []) (hl : ws.length ≤ 100000) :
    ∃ t, R (d + 6) 80 [Z (.ptr i 0), Z x] s = some (B (lineP p ws).isSome, t) ∧ But i s t ∧ t.get i = some (.cells true (cP ((lineP p ws).getD p))) := by
  rw [f80_run]
  unfold f80
  have hi := wf.lt hp
  have hpos : 0 < ws.length := by
    cases ws with
    | nil => exact absurd rfl hne
    | cons _ _ => simp
  have at_ : ∀ (u : St), Gr s u → ∀ j : Nat, j < ws.length → ∃ q, aIndexSl 1 (Z x) (I .i64 (j : Nat)) = some q ∧ aLoad1 q u.get = some (Z (.str (ws.getD j []))) := fun u g j hj => by
    have hx' : RT u x ws := hx.gr (fun c hc => (hox c hc).1) g
    exact RT.atT hx' rfl (by simp [List.getD, hj])
  have fixp : ∀ (u v : St) j, j < ws.length → ∀ q, aIndexSl 1 (Z x) (I .i64 ((j : Nat) : Int)) = some q → Gr s u → aLoad1 q u.get = some (Z (.str (ws.getD j []))) := fun u v j hj q hq g => by
    obtain ⟨q', h1, h2⟩ := at_ u g j hj
    rw [hq] at h1
    cases h1
    exact h2
  have hlen := hx.lens
  have w1 : IntKind.i64.wrap ((ws.length : Int) - 1) = ((ws.length - 1 : Nat) : Int) := by rw [wrap_in _ (by omega) (by omega)]; omega
  obtain ⟨ql, ixl, ldl⟩ := at_ s (Gr.refl wf) (ws.length - 1) (by omega)
  obtain ⟨s1, e1, g1⟩ := number_run (l := ws.getD (ws.length - 1) []) d wf
  obtain ⟨last, hlast⟩ : ∃ last, last = ws.getD (ws.length - 1) [] := ⟨_, rfl⟩
  rw [← hlast] at ldl e1
  obtain ⟨q0, ix0, ld0⟩ := at_ s1 g1 0 hpos
  obtain ⟨w0, hw0⟩ : ∃ w, w = ws.getD 0 [] := ⟨_, rfl⟩
  rw [← hw0] at ld0
  have hp1 : s1.get i = some (.cells true (cP p)) := by rw [g1.2.2 i hi]; exact hp
  have hi1 : i < s1.size := Nat.lt_of_lt_of_le hi g1.2.1
  have hdef : lineP p ws = if w0 = kKeep ∧ ws.length = 3 then
    if ixT (ws.getD 1 []) tNames 0 < 0 ∨ (numOk last = false ∧ ws.getD 2 [] ≠ kEver) then none else some (setAge p (ixT (ws.getD 1 []) tNames 0) (numV last))
      else if w0 = kSeal ∧ ws.length = 2 ∧ numOk last = true then some { p with c := numV last }
      else if w0 = kSpan ∧ ws.length = 2 ∧ numOk last = true then some { p with n := numV last } else none := by rw [hw0, hlast]; rfl
  rw [hdef]
  have k1 : (Z (.str [107, 101, 101, 112]) : T) = Z (.str kKeep) := rfl
  have k2 : (Z (.str [115, 101, 97, 108]) : T) = Z (.str kSeal) := rfl
  have k3 : (Z (.str [115, 112, 97, 110]) : T) = Z (.str kSpan) := rfl
  have k4 : (Z (.str [101, 118, 101, 114]) : T) = Z (.str kEver) := rfl
  rw [k1, k2, k3, k4]
  have ix0' : aIndexSl 1 (Z x) (I .i64 0) = some q0 := ix0
  by_cases hk : w0 = kKeep ∧ ws.length = 3
  · rw [if_pos hk]
    obtain ⟨hk0, hk3⟩ := hk
    obtain ⟨y, s2, e2, f2⟩ := names_run (d + 4) g1.wf
    have g2 := g1.trans f2.gr
    obtain ⟨q1, ix1, ld1⟩ := at_ s2 g2 1 (by omega)
    have ld1' := fixp s1 s1 1 (by omega) q1 ix1 g1
    obtain ⟨q2, ix2, ld2⟩ := at_ s2 g2 2 (by omega)
    obtain ⟨w1', hw1⟩ : ∃ w, w = ws.getD 1 [] := ⟨_, rfl⟩
    obtain ⟨w2', hw2⟩ : ∃ w, w = ws.getD 2 [] := ⟨_, rfl⟩
    rw [← hw1] at ld1 ld1' ⊢
    rw [← hw2] at ld2 ⊢
    have e3 := indexT_run (v := w1') (d + 4) f2.rd (by decide)
    have ix1' : aIndexSl 1 (Z x) (I .i64 1) = some q1 := ix1
    have ix2' : aIndexSl 1 (Z x) (I .i64 2) = some q2 := ix2
    have hp2 : s2.get i = some (.cells true (cP p)) := by rw [f2.gr.2.2 i hi1]; exact hp1
    have c3 : (ws.length : Int) = 3 := by omega
    have ckk : decide (aLoad1 q1 s1.get = aLoad1 q1 s2.get) = true := decide_eq_true (by rw [ld1, ld1'])
    simp only [Nat.add_assoc, Nat.reduceAdd] at e2 e3
    generalize R (d + 5) = r at *
    rcases ixT_range w1' tNames 0 with hx1 | ⟨j, hj1, hj2, _⟩
    · rw [hx1] at e3 ⊢
      refine ⟨s2, ?_, Gr.but g2 i, by simp; exact hp2⟩
      generalize ((ws.length - 1 : Nat) : Int) = L1 at *
      have w1c : IntKind.i64.wrap 2 = L1 := by rw [c3] at w1; exact w1
      simp [hlen, w1c, ixl, ldl, e1, aExtract, ix0', ld0, hk0, c3, e2, ix1', ld1, ld1', e3, gtt]
    · rw [hj2] at e3 ⊢
      rw [Nat.zero_add] at e3 ⊢
      have c4 : ¬ ((j : Nat) : Int) < 0 := by omega
      have hj4 : j < 4 := hj1
      by_cases hbad : numOk last = false ∧ w2' ≠ kEver
      · rw [if_pos (.inr hbad)]
        refine ⟨s2, ?_, Gr.but g2 i, by simp; exact hp2⟩
        generalize ((ws.length - 1 : Nat) : Int) = L1 at *
        generalize ((j : Nat) : Int) = J at *
        have w1c : IntKind.i64.wrap 2 = L1 := by rw [c3] at w1; exact w1
        simp [hlen, w1c, ixl, ldl, e1, aExtract, ix0', ld0, hk0, c3, e2, ix1', ld1, ld1', e3, gtt, c4, hbad.1, ix2', ld2, hbad.2]
      · have hn : ¬ (((j : Nat) : Int) < 0 ∨ (numOk last = false ∧ w2' ≠ kEver)) := fun h => h.elim c4 hbad
        rw [if_neg hn]
        obtain ⟨s3, hs3⟩ : ∃ s3, s3 = s2.set i (.cells true (cP (setAge p (j : Nat) (numV last)))) := ⟨_, rfl⟩
        have ixa : aIndexArr 4 1 (Z (.ptr i 0)) (I .i64 (j : Nat)) = some (Z (.ptr i j)) := by
          match j, hj4 with
          | 0, _ => rfl
          | 1, _ => rfl
          | 2, _ => rfl
          | 3, _ => rfl
        have st := aStore1_of (σ := s2) (i := i) (o := j) (x := .int .i64 (numV last)) hp2 (by simp [cP]; omega)
        rw [set_age hj4, ← hs3] at st
        refine ⟨s3, ?_, (Gr.but g2 i).trans (by rw [hs3]; exact But.set (Gr.wf g2) (Nat.lt_of_lt_of_le hi g2.2.1) _), by rw [hs3]; exact St.get_set_same _ _ _⟩
        generalize ((ws.length - 1 : Nat) : Int) = L1 at *
        generalize ((j : Nat) : Int) = J at *
        have w1c : IntKind.i64.wrap 2 = L1 := by rw [c3] at w1; exact w1
        cases hno : numOk last with
        | true =>
          rw [hno] at e1
          simp [hlen, w1c, ixl, ldl, e1, aExtract, ix0', ld0, hk0, c3, e2, ix1', ld1, ld1', e3, gtt, c4, ixa, st]
        | false =>
          rw [hno] at e1
          have hev : w2' = kEver := by
            apply Classical.byContradiction
            intro h
            exact hbad ⟨hno, h⟩
          simp [hlen, w1c, ixl, ldl, e1, aExtract, ix0', ld0, hk0, c3, e2, ix1', ld1, ld1', e3, gtt, c4, ix2', ld2, hev, ixa, st]
  · rw [if_neg hk]
    have hkk : w0 = kKeep → ¬ (ws.length : Int) = 3 := fun h h2 => hk ⟨h, by omega⟩
    by_cases hs : w0 = kSeal ∧ ws.length = 2 ∧ numOk last = true
    · rw [if_pos hs]
      obtain ⟨a1, a2, a3⟩ := hs
      have c2 : (ws.length : Int) = 2 := by omega
      have n1 : ¬ kSeal = kKeep := by decide
      have st := aStore1_of (σ := s1) (i := i) (o := 4) (x := .int .i64 (numV last)) hp1 (by simp [cP])
      refine ⟨s1.set i (.cells true (cP { p with c := numV last })), ?_, (Gr.but g1 i).trans (But.set (Gr.wf g1) hi1 _), by simp⟩
      have hset : setRange (cP p) 4 [.int .i64 (numV last)] = cP { p with c := numV last } := rfl
      rw [hset] at st
      rw [a3] at e1
      generalize R (d + 5) = r at *
      generalize ((ws.length - 1 : Nat) : Int) = L1 at *
      have w1c : IntKind.i64.wrap 1 = L1 := by rw [c2] at w1; exact w1
      simp [hlen, w1c, ixl, ldl, e1, aExtract, ix0', ld0, a1, n1, c2, st]
    · rw [if_neg hs]
      by_cases hq : w0 = kSpan ∧ ws.length = 2 ∧ numOk last = true
      · rw [if_pos hq]
        obtain ⟨a1, a2, a3⟩ := hq
        have c2 : (ws.length : Int) = 2 := by omega
        have n1 : ¬ kSpan = kKeep := by decide
        have n2 : ¬ kSpan = kSeal := by decide
        have st := aStore1_of (σ := s1) (i := i) (o := 5) (x := .int .i64 (numV last)) hp1 (by simp [cP])
        refine ⟨s1.set i (.cells true (cP { p with n := numV last })), ?_, (Gr.but g1 i).trans (But.set (Gr.wf g1) hi1 _), by simp⟩
        have hset : setRange (cP p) 5 [.int .i64 (numV last)] = cP { p with n := numV last } := rfl
        rw [hset] at st
        rw [a3] at e1
        generalize R (d + 5) = r at *
        generalize ((ws.length - 1 : Nat) : Int) = L1 at *
        have w1c : IntKind.i64.wrap 1 = L1 := by rw [c2] at w1; exact w1
        simp [hlen, w1c, ixl, ldl, e1, aExtract, ix0', ld0, a1, n1, n2, c2, st]
      · rw [if_neg hq]
        refine ⟨s1, ?_, Gr.but g1 i, by simp; exact hp1⟩
        have hss : w0 = kSeal → (ws.length : Int) = 2 → numOk last = false := fun h h2 => by
          cases hn : numOk last with
          | false => rfl
          | true => exact absurd ⟨h, by omega, hn⟩ hs
        have hqq : w0 = kSpan → (ws.length : Int) = 2 → numOk last = false := fun h h2 => by
          cases hn : numOk last with
          | false => rfl
          | true => exact absurd ⟨h, by omega, hn⟩ hq
        generalize R (d + 5) = r at *
        generalize ((ws.length - 1 : Nat) : Int) = L1 at *
        have n1 : ¬ kSeal = kKeep := by decide
        have n2 : ¬ kSpan = kKeep := by decide
        have n3 : ¬ kSpan = kSeal := by decide
        have n4 : ¬ kSeal = kSpan := by decide
        have n5 : ¬ kKeep = kSpan := by decide
        have n6 : ¬ kKeep = kSeal := by decide
        by_cases b1 : w0 = kKeep
        · have c3 := hkk b1
          simp [hlen, w1, ixl, ldl, e1, aExtract, ix0', ld0, b1, c3, n5, n6]
        · by_cases b2 : w0 = kSeal
          · by_cases c2 : (ws.length : Int) = 2
            · have := hss b2 c2
              have w1c : IntKind.i64.wrap 1 = L1 := by rw [c2] at w1; exact w1
              simp [hlen, w1c, ixl, ldl, e1, aExtract, ix0', ld0, b2, n1, n4, c2, this]
            · simp [hlen, w1, ixl, ldl, e1, aExtract, ix0', ld0, b2, n1, n4, c2]
          · by_cases b3 : w0 = kSpan
            · by_cases c2 : (ws.length : Int) = 2
              · have := hqq b3 c2
                have w1c : IntKind.i64.wrap 1 = L1 := by rw [c2] at w1; exact w1
                simp [hlen, w1c, ixl, ldl, e1, aExtract, ix0', ld0, b3, n2, n3, c2, this]
              · simp [hlen, w1, ixl, ldl, e1, aExtract, ix0', ld0, b3, n2, n3, c2]
            · simp [hlen, w1, ixl, ldl, e1, aExtract, ix0', ld0, b1, b2, b3]
end
end Go.Proofs.YtlhbidbdmdcdeaaGreatDoor


/-
  What policy.Parse computes, in any store. No conditions but those named in each line.
-/
namespace Go.Proofs.YtlhbidbdmdcdeaaGreatDoor
open Go Go.Abs Go.Abs.F
set_option linter.unusedVariables false

def wordsOf (x : Bs) : List Bs := (splitB 32 (x.takeWhile fun b => !Nat.beq b.toNat (35 : UInt8).toNat)).filter fun w => !decide (w = [])

def parseGo : Pol → List Bs → Nat → List Bs → Pol × Int × Int
  | p, _, _, [] => if mayP p then (p, 0, 0) else (pol0, 5, 0)
  | p, seen, k, x :: r => if wordsOf x = [] then parseGo p seen (k + 1) r else
    match lineP p (wordsOf x) with
    | none => (pol0, 4, k + 1)
    | some p' => if joinB [32] (wordsOf x).dropLast ∈ seen then (pol0, 4, k + 1) else parseGo p' (seen ++ [joinB [32] (wordsOf x).dropLast]) (k + 1) r
def parseP (l : Bs) : Pol × Int × Int := parseGo polD [] 0 (splitB 10 l)

section
variable {s t : St} {x y : S} {l : Bs} {i : Nat}

theorem wordsOf_len (x : Bs) : (wordsOf x).length ≤ x.length + 1 := by
  unfold wordsOf
  refine Nat.le_trans (List.length_filter_le _ _) ?_
  rw [splitB_len]
  have h1 := cntB_le 32 (x.takeWhile fun b => !Nat.beq b.toNat (35 : UInt8).toNat)
  have h2 := (List.takeWhile_sublist (p := fun b : UInt8 => !Nat.beq b.toNat (35 : UInt8).toNat) (l := x)).length_le
  omega

theorem total_sublist : ∀ {a b : List Bs}, a.Sublist b → totalLen a ≤ totalLen b := by
  intro a b h
  induction h with
  | slnil => exact Nat.le_refl _
  | cons x _ ih => simp only [totalLen]; omega
  | cons_cons x _ ih => simp only [totalLen]; omega

theorem wordsOf_total (x : Bs) : totalLen (wordsOf x).dropLast ≤ x.length := by
  have h1 := total_sublist (List.dropLast_sublist (wordsOf x))
  have h2 := total_sublist (List.filter_sublist (l := splitB 32 (x.takeWhile fun b => !Nat.beq b.toNat (35 : UInt8).toNat)) (p := fun w => !decide (w = [])))
  have h3 : totalLen (splitB 32 (x.takeWhile fun b => !Nat.beq b.toNat (35 : UInt8).toNat)) ≤ (x.takeWhile fun b => !Nat.beq b.toNat (35 : UInt8).toNat).length := by rw [totalLen_sum]; exact splitB_sum _ _
  have h4 := (List.takeWhile_sublist (p := fun b : UInt8 => !Nat.beq b.toNat (35 : UInt8).toNat) (l := x)).length_le
  unfold wordsOf at h1 ⊢
  exact Nat.le_trans h1 (Nat.le_trans h2 (Nat.le_trans h3 h4))

theorem words_loop (r : CallF) (v0 v1 v2 v3 v5 v6 v7 : T) {ps : List Bs} (hx : RT s x ps) (hox : ∀ c, own x = some c → c < s.size) (wf : s.wf) (hl : ps.length ≤ 8001) :
    ∃ (y : S) (τ : St), loops (f51_l2 r 8192) 8192 [v0, v1, v2, v3, Z .nils, v5, v6, v7, Z x, I .i64 ps.length, I .i64 0] s = some (.exit 2 [v0, v1, v2, v3, Z y, v5, v6, v7], τ) ∧ FT s τ y (ps.filter fun w => !decide (w = [])) := by
  obtain ⟨j, τ, lp, y, rfl, hf⟩ := loops_inv (f := f51_l2 r 8192) (fun q v u => ∃ (k : Nat) (y : S), q + k = ps.length ∧ v = [v0, v1, v2, v3, Z y, v5, v6, v7, Z x, I .i64 ps.length, I .i64 k] ∧ FT s u y ((ps.take k).filter fun w => !decide (w = [])))
    (fun j u => ∃ y, j = .exit 2 [v0, v1, v2, v3, Z y, v5, v6, v7] ∧ FT s u y (ps.filter fun w => !decide (w = []))) (by
    rintro q v u ⟨k, y, hk, rfl, hf⟩
    by_cases hkl : k < ps.length
    · left
      have hc : ps[k]? = some ps[k] := List.getElem?_eq_getElem hkl
      have hx' : RT u x ps := hx.gr hox hf.gr
      obtain ⟨p, ix, ld⟩ := RT.atT hx' (n := (k : Int)) rfl hc
      have c0 : (k : Int) < (ps.length : Int) := by omega
      have w1 : IntKind.i64.wrap ((k : Int) + 1) = ((k + 1 : Nat) : Int) := by rw [wrap_in _ (by omega) (by omega)]; omega
      have htk : ps.take (k + 1) = ps.take k ++ [ps[k]] := by rw [List.take_add_one, hc]; rfl
      by_cases he : ps[k] = []
      · refine ⟨[v0, v1, v2, v3, Z y, v5, v6, v7, Z x, I .i64 ps.length, I .i64 ((k + 1 : Nat) : Int)], u, q - 1, ?_, by omega, k + 1, y, by omega, rfl, ?_⟩
        · unfold f51_l2
          rw [he] at ld
          generalize ((k + 1 : Nat) : Int) = K1 at w1 ⊢
          generalize (k : Int) = K at *
          simp [c0, ix, ld, w1]
        · rw [htk, List.filter_append, he]
          simpa using hf
      · have hlen : ((ps.take k).filter fun w => !decide (w = [])).length ≤ 1000000 := by
          refine Nat.le_trans (List.length_filter_le _ _) ?_
          rw [List.length_take]
          omega
        obtain ⟨y', t, ⟨s', nw, ap⟩, hf', _⟩ := FT.lit (c := ps[k]) hf hlen
        refine ⟨[v0, v1, v2, v3, Z y', v5, v6, v7, Z x, I .i64 ps.length, I .i64 ((k + 1 : Nat) : Int)], t, q - 1, ?_, by omega, k + 1, y', by omega, rfl, ?_⟩
        · unfold f51_l2
          generalize ((k + 1 : Nat) : Int) = K1 at w1 ⊢
          generalize (k : Int) = K at *
          simp [c0, ix, ld, he, nw, ap, w1]
        · rw [htk, List.filter_append]
          simpa [he] using hf'
    · right
      have hk' : k = ps.length := by omega
      subst hk'
      refine ⟨.exit 2 [v0, v1, v2, v3, Z y, v5, v6, v7], u, ?_, (fun v hv => by cases hv), y, rfl, by rwa [List.take_length] at hf⟩
      unfold f51_l2
      simp) 8192 ps.length [v0, v1, v2, v3, Z .nils, v5, v6, v7, Z x, I .i64 ps.length, I .i64 0] s ⟨0, .nils, by omega, rfl, by simpa [FT, strS] using Fr.nil 1 wf⟩ (by omega)
  exact ⟨y, τ, lp, hf⟩

theorem parse_run (d : Nat) (wf : s.wf) (hl : l.length ≤ 8000) : ∃ t, R (d + 7) 51 [Z (.str l)] s = some (.tup [.agg (cP (parseP l).1), .s (.int .i64 (parseP l).2.1), .s (.int .i64 (parseP l).2.2)], t) ∧ Gr s t := by
  rw [f51_run]
  unfold f51
  obtain ⟨s1, hs1⟩ : ∃ s1, s1 = s.push (.cells true (cP pol0)) := ⟨_, rfl⟩
  have g1 : Gr s s1 := by rw [hs1]; exact Gr.push wf _
  have z1 : s1.size = s.size + 1 := by rw [hs1]; rfl
  have hr1 : s1.get s.size = some (.cells true (cP pol0)) := by rw [hs1]; exact St.get_push_same _ _
  have nw1 : aNew s (nCells [.int .i64 0, .int .i64 0, .int .i64 0, .int .i64 0, .int .i64 0, .int .i64 0]) = some (Z (.ptr s.size 0), s1) := by rw [hs1]; rfl
  obtain ⟨s2, e2, g2⟩ := default_run (d + 5) g1.wf
  obtain ⟨s3, hs3⟩ : ∃ s3, s3 = s2.push (.cells true (cP pol0)) := ⟨_, rfl⟩
  have g3 : Gr s2 s3 := by rw [hs3]; exact Gr.push g2.wf _
  have nw3 : aNew s2 (nCells [.int .i64 0, .int .i64 0, .int .i64 0, .int .i64 0, .int .i64 0, .int .i64 0]) = some (Z (.ptr s2.size 0), s3) := by rw [hs3]; rfl
  have hp3 : s3.get s2.size = some (.cells true (cP pol0)) := by rw [hs3]; exact St.get_push_same _ _
  have z3 : s3.size = s2.size + 1 := by rw [hs3]; rfl
  obtain ⟨s4, hs4⟩ : ∃ s4, s4 = s3.set s2.size (.cells true (cP polD)) := ⟨_, rfl⟩
  have st4 := store6 (p := polD) hp3 rfl
  rw [← hs4] at st4
  have f4 : s4.wf := by rw [hs4]; exact St.wf_set g3.wf (by omega) _
  have z4 : s4.size = s2.size + 1 := by rw [hs4]; simpa using z3
  have hp4 : s4.get s2.size = some (.cells true (cP polD)) := by rw [hs4]; exact St.get_set_same _ _ _
  have old4 : ∀ b, b < s2.size → s4.get b = s2.get b := fun b hb => by rw [hs4, St.get_set_ne _ _ (by omega), g3.2.2 b hb]
  have hle2 : s.size + 1 ≤ s2.size := by have := g2.2.1; omega
  have hr4 : s4.get s.size = some (.cells true (cP pol0)) := by rw [old4 _ (by omega), g2.2.2 _ (by omega)]; exact hr1
  have olds4 : ∀ b, b < s.size → s4.get b = s.get b := fun b hb => by rw [old4 b (by omega), g2.2.2 b (by omega), g1.2.2 b hb]
  obtain ⟨x, s5, e5, f5⟩ := split_run (l := l) (c := 10) (d + 3) f4 hl
  obtain ⟨ps, hps⟩ : ∃ ps, ps = splitB 10 l := ⟨_, rfl⟩
  rw [← hps] at f5
  have hcount : ps.length ≤ 8001 := by rw [hps, splitB_len]; have := cntB_le 10 l; omega
  have hmem : ∀ w ∈ ps, w.length ≤ 8000 := fun w hw => by have := splitB_mem 10 l w (by rw [← hps]; exact hw); omega
  have hresult : parseP l = parseGo polD [] 0 ps := by rw [hps]; rfl
  rw [hresult]
  obtain ⟨rp, hrp⟩ : ∃ rp, rp = s.size := ⟨_, rfl⟩
  obtain ⟨pp, hpp⟩ : ∃ pp, pp = s2.size := ⟨_, rfl⟩
  rw [← hrp] at nw1 hr4
  rw [← hpp] at nw3 st4 hp4
  obtain ⟨j, τ, lp, hj⟩ := loops_inv (f := f51_l1 (R (d + 6)) 8192)
    (fun q v u => ∃ (k : Nat) (p : Pol) (y : S) (seen : List Bs), q + k = ps.length ∧ v = [Z (.ptr rp 0), Z (.ptr pp 0), Z y, Z x, I .i64 ps.length, I .i64 k] ∧ u.wf ∧ s5.size ≤ u.size ∧ u.get rp = some (.cells true (cP pol0)) ∧ u.get pp = some (.cells true (cP p)) ∧
      (∀ b, b < s5.size → b ≠ pp → u.get b = s5.get b) ∧ Ow 1 u y seen.length (strS seen) ∧ (∀ c, own y = some c → s5.size ≤ c ∧ c < u.size) ∧ seen.length ≤ k ∧ parseGo p seen k (ps.drop k) = parseGo polD [] 0 ps)
    (fun j u => u.wf ∧ s5.size ≤ u.size ∧ (∀ b, b < s5.size → b ≠ pp → b ≠ rp → u.get b = s5.get b) ∧
      ((∃ p, j = .exit 0 [Z (.ptr rp 0), Z (.ptr pp 0)] ∧ u.get rp = some (.cells true (cP pol0)) ∧ u.get pp = some (.cells true (cP p)) ∧ parseGo polD [] 0 ps = if mayP p then (p, 0, 0) else (pol0, 5, 0)) ∨
       ∃ k : Nat, j = .ret (.tup [.agg (cP pol0), .s (.int .i64 4), .s (.int .i64 ((k + 1 : Nat) : Int))]) ∧ parseGo polD [] 0 ps = (pol0, 4, (k : Int) + 1))) (by
    rintro q v u ⟨k, p, y, seen, hk, rfl, wfu, hzu, hru, hpu, hou, hy, hyo, hsl, hgo⟩
    have hne : rp ≠ pp := by omega
    have hrp5 : rp < s5.size := by have := f5.gr.2.1; omega
    have hpp5 : pp < s5.size := by have := f5.gr.2.1; omega
    by_cases hkl : k < ps.length
    · have hc : ps[k]? = some ps[k] := List.getElem?_eq_getElem hkl
      have hdr : ps.drop k = ps[k] :: ps.drop (k + 1) := List.drop_eq_getElem_cons hkl
      obtain ⟨w, hw⟩ : ∃ w, w = ps[k] := ⟨_, rfl⟩
      rw [← hw] at hc hdr
      rw [hdr] at hgo
      have hwl : w.length ≤ 8000 := hmem w (List.mem_of_getElem? hc)
      have hx' : RT u x ps := f5.rd.keep fun c hc' => hou c (f5.new c hc').2 (by have := (f5.new c hc').1; omega)
      obtain ⟨pi, ix, ld⟩ := RT.atT hx' (n := (k : Int)) rfl hc
      have c0 : (k : Int) < (ps.length : Int) := by omega
      have w1 : IntKind.i64.wrap ((k : Int) + 1) = ((k + 1 : Nat) : Int) := by rw [wrap_in _ (by omega) (by omega)]; omega
      have ec := cut_run (s := u) (l := w) (c := 35) (d + 3) (by omega)
      obtain ⟨cw, hcw⟩ : ∃ cw, cw = w.takeWhile fun b => !Nat.beq b.toNat (35 : UInt8).toNat := ⟨_, rfl⟩
      rw [← hcw] at ec
      have hcl : cw.length ≤ w.length := by rw [hcw]; exact (List.takeWhile_sublist _).length_le
      obtain ⟨x2, u2, es, fs⟩ := split_run (l := cw) (c := 32) (d + 3) wfu (by omega)
      have hl2 : (splitB 32 cw).length ≤ 8001 := by rw [splitB_len]; have := cntB_le 32 cw; omega
      have hl2' := fs.rd.lens
      obtain ⟨y3, u3, lp2, f3⟩ := words_loop (R (d + 6)) (Z (.ptr rp 0)) (Z (.ptr pp 0)) (Z y) (I .i64 k) (Z x) (I .i64 ps.length) (I .i64 k) fs.rd (fun c hc' => (fs.new c hc').2) fs.gr.wf hl2
      have hws : ((splitB 32 cw).filter fun w => !decide (w = [])) = wordsOf w := by rw [hcw]; rfl
      rw [hws] at f3
      have g23 : Gr u u3 := fs.gr.trans f3.gr
      have hru3 : u3.get rp = some (.cells true (cP pol0)) := by rw [g23.2.2 rp (by omega)]; exact hru
      have hpu3 : u3.get pp = some (.cells true (cP p)) := by rw [g23.2.2 pp (by omega)]; exact hpu
      have hou3 : ∀ b, b < s5.size → b ≠ pp → u3.get b = s5.get b := fun b hb hb2 => by rw [g23.2.2 b (by omega)]; exact hou b hb hb2
      have hy3 : Ow 1 u3 y seen.length (strS seen) := hy.gr wfu g23
      have hyo3 : ∀ c, own y = some c → s5.size ≤ c ∧ c < u3.size := fun c hc' => ⟨(hyo c hc').1, Nat.lt_of_lt_of_le (hyo c hc').2 g23.2.1⟩
      have hz3 : s5.size ≤ u3.size := Nat.le_trans hzu g23.2.1
      have hl3 := f3.rd.lens
      simp only [Nat.add_assoc, Nat.reduceAdd] at ec es lp2
      by_cases hnil : wordsOf w = []
      · left
        rw [hnil] at hl3
        refine ⟨[Z (.ptr rp 0), Z (.ptr pp 0), Z y, Z x, I .i64 ps.length, I .i64 ((k + 1 : Nat) : Int)], u3, q - 1, ?_, by omega, k + 1, p, y, seen, by omega, rfl, g23.wf, hz3, hru3, hpu3, hou3, hy3, hyo3, by omega, ?_⟩
        · unfold f51_l1
          generalize R (d + 6) = r at *
          generalize ((k + 1 : Nat) : Int) = K1 at w1 ⊢
          generalize (k : Int) = K at *
          generalize ((splitB 32 cw).length : Int) = SL at *
          simp [c0, ix, ld, ec, aExtract, es, hl2', lp2, hl3, w1]
        · rw [← hgo]
          show _ = (if wordsOf w = [] then _ else _)
          rw [if_pos hnil]
      · -- a line that says something
        obtain ⟨n, hn⟩ : ∃ n, (wordsOf w).length = n + 1 := by
          cases hq : wordsOf w with
          | nil => exact absurd hq hnil
          | cons a b => exact ⟨b.length, rfl⟩
        have hwn : (wordsOf w).length ≤ 8001 := Nat.le_trans (wordsOf_len w) (by omega)
        rw [hn] at hl3
        have cl : ¬ (((n + 1 : Nat) : Int) = 0) := by omega
        have wl : IntKind.i64.wrap (((n + 1 : Nat) : Int) - 1) = ((n : Nat) : Int) := by rw [wrap_in _ (by omega) (by omega)]; omega
        obtain ⟨y4, pc, rd4, own4⟩ := f3.rd.upto (hi := n) (by omega)
        have htk : (strS (wordsOf w)).take (n * 1) = strS (wordsOf w).dropLast := by rw [Nat.mul_one, strS_take, List.dropLast_eq_take, hn, Nat.add_sub_cancel]
        have hdl : (wordsOf w).dropLast.length = n := by rw [List.length_dropLast, hn, Nat.add_sub_cancel]
        rw [htk] at rd4
        have rd4' : RT u3 y4 (wordsOf w).dropLast := by unfold RT; rw [hdl]; exact rd4
        have ej : R (d + 6) 79 [Z y4, Z (.str [32])] u3 = some (Z (.str (joinB [32] (wordsOf w).dropLast)), u3) := runQ_prim (prim_join rd4' (by have := wordsOf_total w; simp; omega) (by omega))
        obtain ⟨said, hsaid⟩ : ∃ said, said = joinB [32] (wordsOf w).dropLast := ⟨_, rfl⟩
        rw [← hsaid] at ej
        have hrdw : RT u3 y3 (wordsOf w) := f3.rd
        obtain ⟨u4, e4, b4, hp4'⟩ := line_run (i := pp) d g23.wf (ws := wordsOf w) hpu3 hrdw (fun c hc' => ⟨(f3.new c hc').2, by have := (f3.new c hc').1; have := fs.gr.2.1; omega⟩) hnil (by omega)
        have hz4 : s5.size ≤ u4.size := Nat.le_trans hz3 b4.2.1
        have hru4 : u4.get rp = some (.cells true (cP pol0)) := by rw [b4.2.2 rp (by omega) hne]; exact hru3
        have hou4 : ∀ b, b < s5.size → b ≠ pp → u4.get b = s5.get b := fun b hb hb2 => by rw [b4.2.2 b (by omega) hb2]; exact hou3 b hb hb2
        have hy4 : Ow 1 u4 y seen.length (strS seen) := hy3.keep fun c hc' => b4.2.2 c (hyo3 c hc').2 (by have := (hyo3 c hc').1; omega)
        have hyo4 : ∀ c, own y = some c → s5.size ≤ c ∧ c < u4.size := fun c hc' => ⟨(hyo3 c hc').1, Nat.lt_of_lt_of_le (hyo3 c hc').2 b4.2.1⟩
        have econ := containsT_run (s := u4) (x := y) (ws := seen) (v := said) (d + 4) hy4.rd (by omega)
        have hgo2 : (match lineP p (wordsOf w) with
          | none => (pol0, 4, (k : Int) + 1)
          | some p' => if said ∈ seen then (pol0, 4, (k : Int) + 1) else parseGo p' (seen ++ [said]) (k + 1) (ps.drop (k + 1))) = parseGo polD [] 0 ps := by
          rw [← hgo]
          show _ = (if wordsOf w = [] then _ else _)
          rw [if_neg hnil, hsaid]
        have store_r : ∀ u' : St, u'.get rp = some (.cells true (cP pol0)) → aStore 6 (Z (.ptr rp 0)) (AP pol0) u' = some (tt, u'.set rp (.cells true (cP pol0))) := fun u' h => store6 h rfl
        have load_r : ∀ u' : St, aLoadN 6 (Z (.ptr rp 0)) (u'.set rp (.cells true (cP pol0))).get = some (AP pol0) := fun u' => load6 (St.get_set_same _ _ _)
        simp only [Nat.add_assoc, Nat.reduceAdd] at e4 econ
        cases hlp : lineP p (wordsOf w) with
        | none =>
          right
          rw [hlp] at e4 hgo2
          simp only [Option.isSome_none] at e4
          refine ⟨.ret (.tup [.agg (cP pol0), .s (.int .i64 4), .s (.int .i64 ((k + 1 : Nat) : Int))]), u4.set rp (.cells true (cP pol0)), ?_, (fun v hv => by cases hv), St.wf_set b4.1 (by omega) _, by simpa using hz4, fun b hb h1 h2 => by rw [St.get_set_ne _ _ h2]; exact hou4 b hb h1, .inr ⟨k, rfl, hgo2.symm⟩⟩
          unfold f51_l1
          have sr := store_r u4 hru4
          have lr := load_r u4
          generalize u4.set rp (.cells true (cP pol0)) = u5 at *
          generalize R (d + 6) = r at *
          generalize ((k + 1 : Nat) : Int) = K1 at w1 ⊢
          generalize (k : Int) = K at *
          generalize ((splitB 32 cw).length : Int) = SL at *
          generalize ((n + 1 : Nat) : Int) = N1 at *
          generalize ((n : Nat) : Int) = N0 at *
          simp [c0, ix, ld, ec, aExtract, es, hl2', lp2, hl3, cl, wl, pc, ej, e4, gtt, agg6, sr, lr, w1, rC, rT, retT, allV]
        | some p' =>
          rw [hlp] at e4 hgo2 hp4'
          simp only [Option.isSome_some] at e4
          by_cases hin : said ∈ seen
          · right
            simp only [if_pos hin] at hgo2
            rw [decide_eq_true hin] at econ
            refine ⟨.ret (.tup [.agg (cP pol0), .s (.int .i64 4), .s (.int .i64 ((k + 1 : Nat) : Int))]), u4.set rp (.cells true (cP pol0)), ?_, (fun v hv => by cases hv), St.wf_set b4.1 (by omega) _, by simpa using hz4, fun b hb h1 h2 => by rw [St.get_set_ne _ _ h2]; exact hou4 b hb h1, .inr ⟨k, rfl, hgo2.symm⟩⟩
            unfold f51_l1
            have sr := store_r u4 hru4
            have lr := load_r u4
            generalize u4.set rp (.cells true (cP pol0)) = u5 at *
            generalize R (d + 6) = r at *
            generalize ((k + 1 : Nat) : Int) = K1 at w1 ⊢
            generalize (k : Int) = K at *
            generalize ((splitB 32 cw).length : Int) = SL at *
            generalize ((n + 1 : Nat) : Int) = N1 at *
            generalize ((n : Nat) : Int) = N0 at *
            simp [c0, ix, ld, ec, aExtract, es, hl2', lp2, hl3, cl, wl, pc, ej, e4, econ, agg6, sr, lr, w1, rC, rT, retT, allV]
          · left
            simp only [if_neg hin] at hgo2
            rw [decide_eq_false hin] at econ
            have hfr : Fr 1 u4 u4 y seen.length (strS seen) → True := fun _ => trivial
            have L := Fr.lit 1 b4.1 (n := 1) (vs := strS [said]) (by simp)
            obtain ⟨y5, u5, ap, wf5, z5, ow5, old5, new5⟩ := (hy4.gr b4.1 L.gr).append (by_ := 16) L.gr.wf (by omega) L.rd.src (by simp) (by omega)
            have nw : aNew u4 (nSlice 1 (aFill [.str []] [(0, 1, Z (.str said))])) = some (Z (.sl u4.size 0 1 (.known 1)), u4.push (.cells true (strS [said]))) := by simp [aNew, nSlice, aFill, V.cells, setRange, strS]
            have zl : u4.size < (u4.push (.cells true (strS [said]))).size := by simp
            have keep5 : ∀ b, b < s5.size → u5.get b = u4.get b := fun b hb => by
              rw [old5 b (by omega) (fun e => by have := (hyo4 b e).1; omega), L.gr.2.2 b (by omega)]
            refine ⟨[Z (.ptr rp 0), Z (.ptr pp 0), Z y5, Z x, I .i64 ps.length, I .i64 ((k + 1 : Nat) : Int)], u5, q - 1, ?_, by omega, k + 1, p', y5, seen ++ [said], by omega, rfl, wf5, by omega, by rw [keep5 rp hrp5]; exact hru4, by rw [keep5 pp hpp5]; exact hp4',
              fun b hb h1 => by rw [keep5 b hb]; exact hou4 b hb h1, by rw [strS_append, List.length_append]; exact ow5, fun c hc' => ?_, by simp; omega, by rw [hgo2]⟩
            · unfold f51_l1
              generalize u4.push (.cells true (strS [said])) = u6 at *
              generalize R (d + 6) = r at *
              generalize ((k + 1 : Nat) : Int) = K1 at w1 ⊢
              generalize (k : Int) = K at *
              generalize ((splitB 32 cw).length : Int) = SL at *
              generalize ((n + 1 : Nat) : Int) = N1 at *
              generalize ((n : Nat) : Int) = N0 at *
              simp [c0, ix, ld, ec, aExtract, es, hl2', lp2, hl3, cl, wl, pc, ej, e4, econ, nw, ap, w1]
            · have hlt := ow5.lt wf5 hc'
              rcases new5 with e | e | ⟨c', e, hc2⟩
              · rw [e] at hc'; cases hc'
              · rw [e] at hc'; exact ⟨(hyo4 c hc').1, hlt⟩
              · rw [e] at hc'; cases hc'; exact ⟨by omega, hlt⟩
    · right
      have hk' : k = ps.length := by omega
      refine ⟨.exit 0 [Z (.ptr rp 0), Z (.ptr pp 0)], u, ?_, (fun v hv => by cases hv), wfu, hzu, fun b hb h1 h2 => hou b hb h1, .inl ⟨p, rfl, hru, hpu, ?_⟩⟩
      · have c0 : ¬ (k : Int) < (ps.length : Int) := by omega
        unfold f51_l1
        simp [c0]
      · rw [← hgo, List.drop_eq_nil_of_le (by omega)]
        rfl) 8192 ps.length [Z (.ptr rp 0), Z (.ptr pp 0), Z .nils, Z x, I .i64 ps.length, I .i64 0] s5
    ⟨0, polD, .nils, [], by omega, rfl, f5.gr.wf, Nat.le_refl _, by rw [f5.gr.2.2 rp (by omega)]; exact hr4, by rw [f5.gr.2.2 pp (by omega)]; exact hp4, fun b hb h1 => rfl, by simpa [strS] using Ow.nil 1 s5, (fun c hc => by cases hc), by simp, rfl⟩ (by omega)
  have hlen5 := f5.rd.lens
  simp only [Nat.add_assoc, Nat.reduceAdd] at e2 e5
  obtain ⟨wfτ, zτ, oldτ, hcase⟩ := hj
  have h45 := f5.gr.2.1
  have oldsτ : ∀ b, b < s.size → τ.get b = s.get b := fun b hb => by rw [oldτ b (by omega) (by omega) (by omega), f5.gr.2.2 b (by omega)]; exact olds4 b hb
  rcases hcase with ⟨p, rfl, hrτ, hpτ, hres⟩ | ⟨k, rfl, hres⟩
  · have lp6 := load6 (g := τ.get) hpτ
    obtain ⟨s6, em, g6⟩ := may_run (d + 5) wfτ p
    have hr6 : s6.get rp = some (.cells true (cP pol0)) := by rw [g6.2.2 rp (by omega)]; exact hrτ
    have hp6 : s6.get pp = some (.cells true (cP p)) := by rw [g6.2.2 pp (by omega)]; exact hpτ
    have ld6 := load6 (g := s6.get) hp6
    have olds6 : ∀ b, b < s.size → s6.get b = s.get b := fun b hb => by rw [g6.2.2 b (by omega)]; exact oldsτ b hb
    have hsz : s.size ≤ s6.size := by have := g6.2.1; omega
    have hrp6 : rp < s6.size := by have := g6.2.1; omega
    cases hm : mayP p with
    | true =>
      rw [hm] at em hres
      rw [hres]
      have st6 := store6 (p := p) hr6 rfl
      obtain ⟨s7, hs7⟩ : ∃ s7, s7 = s6.set rp (.cells true (cP p)) := ⟨_, rfl⟩
      rw [← hs7] at st6
      have ld7 : aLoadN 6 (Z (.ptr rp 0)) s7.get = some (AP p) := load6 (by rw [hs7]; exact St.get_set_same _ _ _)
      refine ⟨s7, ?_, by rw [hs7]; exact St.wf_set g6.wf (by omega) _, by rw [hs7]; simpa using hsz, fun b hb => by rw [hs7, St.get_set_ne _ _ (by omega)]; exact olds6 b hb⟩
      generalize R (d + 6) = r at *
      generalize (ps.length : Int) = PL at *
      simp [nw1, e2, nw3, st4, e5, hlen5, lp, lp6, em, ld6, st6, ld7, rC, rT, retT, allV]
    | false =>
      rw [hm] at em hres
      rw [hres]
      have st6 := store6 (p := pol0) hr6 rfl
      obtain ⟨s7, hs7⟩ : ∃ s7, s7 = s6.set rp (.cells true (cP pol0)) := ⟨_, rfl⟩
      rw [← hs7] at st6
      have ld7 : aLoadN 6 (Z (.ptr rp 0)) s7.get = some (AP pol0) := load6 (by rw [hs7]; exact St.get_set_same _ _ _)
      refine ⟨s7, ?_, by rw [hs7]; exact St.wf_set g6.wf (by omega) _, by rw [hs7]; simpa using hsz, fun b hb => by rw [hs7, St.get_set_ne _ _ (by omega)]; exact olds6 b hb⟩
      generalize R (d + 6) = r at *
      generalize (ps.length : Int) = PL at *
      simp [nw1, e2, nw3, st4, e5, hlen5, lp, lp6, em, agg6, st6, ld7, rC, rT, retT, allV]
  · rw [hres]
    refine ⟨τ, ?_, wfτ, by omega, oldsτ⟩
    generalize R (d + 6) = r at *
    generalize (ps.length : Int) = PL at *
    have hk1 : ((k + 1 : Nat) : Int) = (k : Int) + 1 := by omega
    rw [hk1] at lp
    simp [nw1, e2, nw3, st4, e5, hlen5, lp]
end
end Go.Proofs.YtlhbidbdmdcdeaaGreatDoor


/-
  Numbers' bytes, sums and comparisons of bytes: what the functions compute, in any store. No conditions but those named in each line.
-/
namespace Go.Proofs.YtlhbidbdmdcdeaaGreatDoor
open Go Go.Abs Go.Abs.F
set_option linter.unusedVariables false
section
variable {s t : St} {x y : S} {bs cs : List UInt8}

def vjo (at_ : Nat) : Option (Nat × Nat) → JO
  | some (n, e) => .ret (.tup [.s (.int .u64 n), .s (.int .i64 e), .s (.int .i64 0)])
  | none => .exit 0 [I .i64 at_]

theorem getN_run (r : CallF) (N : Nat) (h : RB s x bs) (hl : bs.length ≤ 100000) {at_ : Nat} (ha : at_ ≤ 100000) (res : Option (Nat × Nat)) (hres : getN bs at_ 10 0 0 = res) :
    loops (f54_l1 r N) 8192 [Z x, I .i64 at_, I .u64 0, I .i64 0] s = some (vjo at_ res, s) := by
  obtain ⟨j, τ, lp, hj, hτ⟩ := loops_inv (f := f54_l1 r N) (fun q v u => ∃ k n : Nat, q + k = 10 ∧ v = [Z x, I .i64 at_, I .u64 n, I .i64 k] ∧ u = s ∧ n < 2 ^ 64 ∧ getN bs at_ q k n = res)
    (fun j u => j = vjo at_ res ∧ u = s) (by
    rintro q v u ⟨k, n, hk, rfl, rfl, hn, hg⟩
    have hll := h.lenB
    cases q with
    | zero =>
      right
      have hk' : k = 10 := by omega
      subst hk'
      have : res = none := by rw [← hg]; rfl
      subst this
      refine ⟨.exit 0 [I .i64 at_], u, ?_, (fun v hv => by cases hv), rfl, rfl⟩
      unfold f54_l1
      simp
    | succ q =>
      have c0 : (k : Int) < 10 := by omega
      have w0 : IntKind.i64.wrap ((at_ : Int) + k) = ((at_ + k : Nat) : Int) := by rw [wrap_in _ (by omega) (by omega)]; omega
      unfold getN at hg
      cases hc : bs[at_ + k]? with
      | none =>
        rw [hc] at hg
        subst hg
        right
        have hle : bs.length ≤ at_ + k := by simpa using hc
        have c1 : (bs.length : Int) ≤ ((at_ + k : Nat) : Int) := by omega
        refine ⟨.exit 0 [I .i64 at_], u, ?_, (fun v hv => by cases hv), rfl, rfl⟩
        unfold f54_l1
        generalize ((at_ + k : Nat) : Int) = A at w0 c1 ⊢
        simp [c0, w0, hll, c1]
      | some c =>
        rw [hc] at hg
        simp only at hg
        have hlt := (List.getElem?_eq_some_iff.1 hc).1
        have c1 : ¬ (bs.length : Int) ≤ ((at_ + k : Nat) : Int) := by omega
        obtain ⟨p, ix, ld⟩ := h.atB (n := ((at_ + k : Nat) : Int)) rfl hc
        have hcb : c.toNat < 256 := c.toNat_lt
        have hand : aBin .and (I .u8 c.toNat) (I .u8 127) = some (I .u8 (c.toNat % 128 : Nat)) := by
          have := and_u8 c.toNat 127 hcb (by decide)
          rw [show (c.toNat &&& 127 : Nat) = c.toNat % 128 from Nat.and_two_pow_sub_one_eq_mod c.toNat 7] at this
          exact this
        have hconv : IntKind.u64.wrap ((c.toNat % 128 : Nat) : Int) = ((c.toNat % 128 : Nat) : Int) := wrap64 _ (by omega)
        have hm7 : IntKind.i64.wrap (7 * (k : Int)) = ((7 * k : Nat) : Int) := by rw [wrap_in _ (by omega) (by omega)]; omega
        have hm8 : IntKind.u64.wrap ((7 * k : Nat) : Int) = ((7 * k : Nat) : Int) := wrap64 _ (by omega)
        have w1 : IntKind.i64.wrap ((k : Int) + 1) = ((k + 1 : Nat) : Int) := by rw [wrap_in _ (by omega) (by omega)]; omega
        have w2 : IntKind.i64.wrap (((at_ + k : Nat) : Int) + 1) = ((at_ + k + 1 : Nat) : Int) := by rw [wrap_in _ (by omega) (by omega)]; omega
        by_cases h9 : k = 9 ∧ 1 < c.toNat
        · rw [if_pos h9] at hg
          subst hg
          right
          have d9 : ((k : Int) = 9) = True := eq_true (by omega)
          have d1 : ((1 : Int) < (c.toNat : Int)) = True := eq_true (by omega)
          refine ⟨.exit 0 [I .i64 at_], u, ?_, (fun v hv => by cases hv), rfl, rfl⟩
          unfold f54_l1
          generalize ((at_ + k : Nat) : Int) = A at w0 c1 ix ⊢
          generalize (k : Int) = K at *
          generalize (c.toNat : Int) = C at *
          simp [c0, w0, hll, c1, ix, ld, d9, d1]
        · rw [if_neg h9] at hg
          have hpow : c.toNat % 128 * 2 ^ (7 * k) < 2 ^ 64 := by
            by_cases e9 : k = 9
            · subst e9
              have : c.toNat % 128 ≤ 1 := by omega
              calc c.toNat % 128 * 2 ^ (7 * 9) ≤ 1 * 2 ^ 63 := Nat.mul_le_mul_right _ this
                _ < 2 ^ 64 := by decide
            · have hk8 : 7 * k ≤ 56 := by omega
              have h128 : c.toNat % 128 < 2 ^ 7 := by omega
              calc c.toNat % 128 * 2 ^ (7 * k) ≤ c.toNat % 128 * 2 ^ 56 := Nat.mul_le_mul_left _ (Nat.pow_le_pow_right (by omega) hk8)
                _ < 2 ^ 64 := by omega
          have hshl := shl_u64 (c.toNat % 128) (7 * k) hpow (by omega)
          have hor := or_u64 n (c.toNat % 128 * 2 ^ (7 * k)) hn hpow
          have hn' : (n ||| c.toNat % 128 * 2 ^ (7 * k)) < 2 ^ 64 := Nat.or_lt_two_pow hn hpow
          obtain ⟨M, hM⟩ : ∃ M, M = (n ||| c.toNat % 128 * 2 ^ (7 * k)) := ⟨_, rfl⟩
          rw [← hM] at hor hn' hg
          have hcase : ((k : Int) = 9) = False ∨ (((k : Int) = 9) = True ∧ ((1 : Int) < (c.toNat : Int)) = False) := by
            by_cases e9 : k = 9
            · exact .inr ⟨eq_true (by omega), eq_false (fun h => h9 ⟨e9, by omega⟩)⟩
            · exact .inl (eq_false (by omega))
          by_cases h128 : 128 ≤ c.toNat
          · rw [if_pos h128] at hg
            left
            have d1 : ((128 : Int) ≤ (c.toNat : Int)) = True := eq_true (by omega)
            refine ⟨[Z x, I .i64 at_, I .u64 M, I .i64 ((k + 1 : Nat) : Int)], u, q, ?_, rfl, k + 1, M, by omega, rfl, rfl, hn', hg⟩
            generalize ((k + 1 : Nat) : Int) = K1 at w1 ⊢
            unfold f54_l1
            generalize ((c.toNat % 128 * 2 ^ (7 * k) : Nat) : Int) = SH at hshl hor
            generalize ((c.toNat % 128 : Nat) : Int) = L at hand hconv hshl
            generalize ((7 * k : Nat) : Int) = K7 at hm7 hm8 hshl
            generalize ((at_ + k : Nat) : Int) = A at w0 c1 ix
            generalize (k : Int) = K at *
            generalize (c.toNat : Int) = C at *
            rcases hcase with e9 | ⟨e9, e1⟩
            · simp [c0, w0, hll, c1, ix, ld, e9, hand, hconv, hm7, hm8, hshl, hor, d1, w1]
            · simp [c0, w0, hll, c1, ix, ld, e9, e1, hand, hconv, hm7, hm8, hshl, hor, d1, w1]
          · rw [if_neg h128] at hg
            right
            have d1 : ((128 : Int) ≤ (c.toNat : Int)) = False := eq_false (by omega)
            by_cases hz : 0 < k ∧ c.toNat = 0
            · rw [if_pos hz] at hg
              subst hg
              have d2 : ((0 : Int) < (k : Int)) = True := eq_true (by omega)
              have d3 : ((c.toNat : Int) = 0) = True := eq_true (by omega)
              refine ⟨.exit 0 [I .i64 at_], u, ?_, (fun v hv => by cases hv), rfl, rfl⟩
              unfold f54_l1
              generalize ((c.toNat % 128 * 2 ^ (7 * k) : Nat) : Int) = SH at hshl hor
              generalize ((c.toNat % 128 : Nat) : Int) = L at hand hconv hshl
              generalize ((7 * k : Nat) : Int) = K7 at hm7 hm8 hshl
              generalize ((at_ + k : Nat) : Int) = A at w0 c1 ix
              generalize (k : Int) = K at *
              generalize (c.toNat : Int) = C at *
              rcases hcase with e9 | ⟨e9, e1⟩
              · simp [c0, w0, hll, c1, ix, ld, e9, hand, hconv, hm7, hm8, hshl, hor, d1, d2, d3]
              · simp [c0, w0, hll, c1, ix, ld, e9, e1, hand, hconv, hm7, hm8, hshl, hor, d1, d2, d3]
            · rw [if_neg hz] at hg
              subst hg
              refine ⟨.ret (.tup [.s (.int .u64 M), .s (.int .i64 ((at_ + k + 1 : Nat) : Int)), .s (.int .i64 0)]), u, ?_, (fun v hv => by cases hv), rfl, rfl⟩
              have hcase2 : ((0 : Int) < (k : Int)) = False ∨ (((0 : Int) < (k : Int)) = True ∧ ((c.toNat : Int) = 0) = False) := by
                by_cases e0 : 0 < k
                · exact .inr ⟨eq_true (by omega), eq_false (fun h => hz ⟨e0, by omega⟩)⟩
                · exact .inl (eq_false (by omega))
              unfold f54_l1
              generalize ((c.toNat % 128 * 2 ^ (7 * k) : Nat) : Int) = SH at hshl hor
              generalize ((c.toNat % 128 : Nat) : Int) = L at hand hconv hshl
              generalize ((7 * k : Nat) : Int) = K7 at hm7 hm8 hshl
              generalize ((at_ + k + 1 : Nat) : Int) = A1 at w2 ⊢
              generalize ((at_ + k : Nat) : Int) = A at w0 w2 c1 ix
              generalize (k : Int) = K at *
              generalize (c.toNat : Int) = C at *
              rcases hcase with e9 | ⟨e9, e1⟩ <;> rcases hcase2 with d2 | ⟨d2, d3⟩
              · simp [c0, w0, hll, c1, ix, ld, e9, hand, hconv, hm7, hm8, hshl, hor, d1, d2, w2, retT, allV]
              · simp [c0, w0, hll, c1, ix, ld, e9, hand, hconv, hm7, hm8, hshl, hor, d1, d2, d3, w2, retT, allV]
              · simp [c0, w0, hll, c1, ix, ld, e9, e1, hand, hconv, hm7, hm8, hshl, hor, d1, d2, w2, retT, allV]
              · simp [c0, w0, hll, c1, ix, ld, e9, e1, hand, hconv, hm7, hm8, hshl, hor, d1, d2, d3, w2, retT, allV]) 8192 10 [Z x, I .i64 at_, I .u64 0, I .i64 0] s ⟨0, 0, rfl, rfl, rfl, by decide, hres⟩ (by omega)
  subst hτ
  subst hj
  exact lp

def vres (at_ len : Nat) : Option (Nat × Nat) → T
  | some (n, e) => .tup [.s (.int .u64 n), .s (.int .i64 e), .s (.int .i64 0)]
  | none => .tup [.s (.int .u64 0), .s (.int .i64 at_), .s (.int .i64 (if at_ ≤ len then 2 else 1))]

theorem vget_run (d : Nat) (h : RB s x bs) (hl : bs.length ≤ 100000) {at_ : Nat} (ha : at_ ≤ 100000) : R (d + 1) 54 [Z x, I .i64 at_] s = some (vres at_ bs.length (vget bs at_), s) := by
  rw [f54_run]
  unfold f54
  have hll := h.lenB
  have c0 : ¬ (at_ : Int) < 0 := by omega
  by_cases hle : at_ ≤ bs.length
  · have c1 : ¬ (bs.length : Int) < (at_ : Int) := by omega
    have lp := getN_run (R d) 8192 h hl ha _ rfl
    unfold vget
    rw [if_pos hle]
    cases hg : getN bs at_ 10 0 0 with
    | none =>
      rw [hg] at lp
      simp [c0, c1, hll, lp, vjo, vres, hle, retT, allV]
    | some p =>
      obtain ⟨n, e⟩ := p
      rw [hg] at lp
      simp [c0, c1, hll, lp, vjo, vres]
  · have c1 : (bs.length : Int) < (at_ : Int) := by omega
    unfold vget
    rw [if_neg hle]
    simp [c0, c1, hll, vres, hle, retT, allV]

theorem vput_loop (r : CallF) (wf : s.wf) (n : Nat) (hn : n < 2 ^ 64) : ∃ (m : Nat) (x : S) (acc : List UInt8) (τ : St), loops (f52_l1 r 8192) 8192 [I .u64 n, Z .nils] s = some (.exit 0 [I .u64 m, Z x], τ) ∧ FB s τ x acc ∧ m < 128 ∧ acc ++ [UInt8.ofNat m] = vput n ∧ acc.length ≤ 10 := by
  obtain ⟨j, τ, lp, m, x, acc, rfl, hF, hm, hacc⟩ := loops_inv (f := f52_l1 r 8192) (fun q v u => ∃ (m : Nat) (x : S) (acc : List UInt8), v = [I .u64 m, Z x] ∧ FB s u x acc ∧ m < 2 ^ (64 - 7 * (10 - q)) ∧ q ≤ 10 ∧ acc.length = 10 - q ∧ acc ++ putN q m = vput n)
      (fun j u => ∃ (m : Nat) (x : S) (acc : List UInt8), j = .exit 0 [I .u64 m, Z x] ∧ FB s u x acc ∧ m < 128 ∧ acc ++ [UInt8.ofNat m] = vput n ∧ acc.length ≤ 10) (by
    rintro q v u ⟨m, x, acc, rfl, hF, hm, hq, hal, hacc⟩
    have hm64 : m < 2 ^ 64 := Nat.lt_of_lt_of_le hm (Nat.pow_le_pow_right (by omega) (by omega))
    by_cases h128 : 128 ≤ m
    · cases q with
      | zero =>
        exfalso
        have : 64 - 7 * (10 - 0) = 0 := by decide
        rw [this] at hm
        omega
      | succ q =>
        left
        have hor : aBin .or (I .u8 ((m % 256 : Nat))) (I .u8 128) = some (I .u8 ((UInt8.ofNat (m % 128 + 128)).toNat)) := by
          have h1 := or_u8 (m % 256) 128 (by omega) (by omega)
          rw [or128 _ (by omega)] at h1
          have e1 : (UInt8.ofNat (m % 128 + 128)).toNat = m % 256 % 128 + 128 := by rw [byte_nat]; omega
          rw [e1]
          exact h1
        have hw := wrap8 m
        have hshr : aBin .shr (I .u64 m) (I .u64 7) = some (I .u64 ((m / 2 ^ 7 : Nat))) := shr_nat .u64 m 7 (by decide)
        have c0 : ((128 : Int) ≤ (m : Int)) = True := eq_true (by omega)
        have nw := lit1 u (UInt8.ofNat (m % 128 + 128)).toNat
        obtain ⟨x', t, ap, hF', hz, _⟩ := FB.lit hF (cs := [UInt8.ofNat (m % 128 + 128)]) (by simp; omega)
        unfold putN at hacc
        rw [if_pos h128] at hacc
        refine ⟨[I .u64 ((m / 2 ^ 7 : Nat)), Z x'], t, q, ?_, rfl, m / 2 ^ 7, x', acc ++ [UInt8.ofNat (m % 128 + 128)], rfl, hF', ?_, by omega, by simp; omega, by rw [List.append_assoc]; exact hacc⟩
        · unfold f52_l1
          simp only [U, List.map_cons, List.map_nil, List.length_cons, List.length_nil, Nat.zero_add] at ap
          generalize ((m / 2 ^ 7 : Nat) : Int) = M7 at hshr ⊢
          generalize ((m % 256 : Nat) : Int) = M8 at hw hor
          generalize ((UInt8.ofNat (m % 128 + 128)).toNat : Int) = B8 at hor nw ap
          generalize (m : Int) = M at *
          simp [c0, hw, hor, nw, ap, hshr]
        · have hq0 : q ≠ 0 := fun e => by
            subst e
            have : 64 - 7 * (10 - (0 + 1)) = 1 := by decide
            rw [this] at hm
            omega
          have h2 : (2 : Nat) ^ (64 - 7 * (10 - (q + 1))) = 2 ^ (64 - 7 * (10 - q)) * 2 ^ 7 := by
            rw [← Nat.pow_add]
            congr 1
            omega
          rw [h2] at hm
          exact Nat.div_lt_of_lt_mul (by rw [Nat.mul_comm]; exact hm)
    · right
      have c0 : ((128 : Int) ≤ (m : Int)) = False := eq_false (by omega)
      refine ⟨.exit 0 [I .u64 m, Z x], u, ?_, (fun v hv => by cases hv), m, x, acc, rfl, hF, by omega, ?_, by omega⟩
      · unfold f52_l1
        simp [c0]
      · rw [← hacc]
        cases q with
        | zero => rfl
        | succ q => unfold putN; rw [if_neg h128]) 8192 10 [I .u64 n, Z .nils] s ⟨n, .nils, [], rfl, Fr.nil 1 wf, hn, by omega, rfl, rfl⟩ (by omega)
  exact ⟨m, x, acc, τ, lp, hF, hm, hacc⟩

theorem vput_run (d : Nat) (wf : s.wf) (n : Nat) (hn : n < 2 ^ 64) : ∃ x t, R (d + 1) 52 [I .u64 n] s = some (Z x, t) ∧ FB s t x (vput n) := by
  rw [f52_run]
  unfold f52
  obtain ⟨m, x, acc, τ, lp, hF, hm, hacc⟩ := vput_loop (R d) wf n hn
  have nw := lit1 τ m
  have hb : (UInt8.ofNat m).toNat = m := by rw [byte_nat]; omega
  obtain ⟨x', t, ap, hF', _⟩ := FB.lit hF (cs := [UInt8.ofNat m]) (by simp; omega)
  rw [hacc.1] at hF'
  refine ⟨x', t, ?_, hF'⟩
  have hw : IntKind.u8.wrap (m : Int) = (m : Int) := by rw [wrap8]; omega
  simp only [U, List.map_cons, List.map_nil, List.length_cons, List.length_nil, Nat.zero_add, hb] at ap
  simp [lp, hw, nw, ap]
end
end Go.Proofs.YtlhbidbdmdcdeaaGreatDoor


/-
  Entries: what entry.May, Put and Same compute, in any store. No conditions but those named in each line.
-/
namespace Go.Proofs.YtlhbidbdmdcdeaaGreatDoor
open Go Go.Abs Go.Abs.F
set_option linter.unusedVariables false

structure Ent where
  k : Int
  v : Int
  i : Int
  t : Int
  f : Int
  o : Int
  u : Int
  x : Bs
  deriving DecidableEq

def cE (e : Ent) : List S := [.int .i64 e.k, .int .i64 e.v, .int .i64 e.i, .int .i64 e.t, .int .i64 e.f, .int .i64 e.o, .int .u32 e.u, .str e.x]
abbrev AE (e : Ent) : T := .v (.agg (cE e))
def ent0 : Ent := ⟨0, 0, 0, 0, 0, 0, 0, []⟩
theorem cE_len (e : Ent) : (cE e).length = 8 := rfl

def idOk (n : Int) : Bool := decide (1 ≤ n) && decide (n ≤ 1073741824)
def mayE (e : Ent) : Bool :=
  if e.v < 0 ∨ 1073741824 < e.v then false
  else if e.k = 1 then decide (e.x = []) && idOk e.i && decide (0 ≤ e.t) && decide (e.t < 4) && decide (0 ≤ e.f) && decide (e.f < e.o) && decide (e.o ≤ 1099511627776)
  else if e.k = 2 then idOk e.i && decide (e = { ent0 with k := 2, v := e.v, i := e.i })
  else if e.k = 3 then decide (0 < e.v) && decide (e = { ent0 with k := 3, v := e.v })
  else if e.k = 4 then decide (e.x.length ≤ 300) && decide (e = { ent0 with k := 4, v := e.v, x := e.x }) && decide ((parseP e.x).2.1 = 0)
  else false

section
variable {s t : St} {x y : S} {l : Bs} {i : Nat}

theorem eqE (a b : Ent) : aEq (.a 8 [(0, .i), (1, .i), (2, .i), (3, .i), (4, .i), (5, .i), (6, .i), (7, .s)]) (AE a) (AE b) = some (decide (a = b)) := by
  obtain ⟨a1, a2, a3, a4, a5, a6, a7, a8⟩ := a
  obtain ⟨b1, b2, b3, b4, b5, b6, b7, b8⟩ := b
  show some (decide (a1 = b1) && (decide (a2 = b2) && (decide (a3 = b3) && (decide (a4 = b4) && (decide (a5 = b5) && (decide (a6 = b6) && (decide (a7 = b7) && (decide (a8 = b8) && true)))))))) = some (decide (Ent.mk a1 a2 a3 a4 a5 a6 a7 a8 = Ent.mk b1 b2 b3 b4 b5 b6 b7 b8))
  simp only [Ent.mk.injEq, Bool.and_true, Bool.decide_and]

theorem eqBE (a b : Ent) : eqB (.a 8 [(0, .i), (1, .i), (2, .i), (3, .i), (4, .i), (5, .i), (6, .i), (7, .s)]) (AE a) (AE b) = some (B (decide (a = b))) := by
  simp only [eqB, eqE]
theorem neBE (a b : Ent) : neB (.a 8 [(0, .i), (1, .i), (2, .i), (3, .i), (4, .i), (5, .i), (6, .i), (7, .s)]) (AE a) (AE b) = some (B (!decide (a = b))) := by
  simp only [neB, eqE]

theorem load8 {i : Nat} {w : Bool} {e : Ent} {g : Mem} (h : g i = some (.cells w (cE e))) : aLoadN 8 (Z (.ptr i 0)) g = some (AE e) := by
  simp [aLoadN, h, cE]
theorem store8 {i : Nat} {vs : List S} {e : Ent} (h : s.get i = some (.cells true vs)) (hv : vs.length = 8) : aStore 8 (Z (.ptr i 0)) (AE e) s = some (tt, s.set i (.cells true (cE e))) := by
  have hb : (V.agg (cE e)).cells.length = 8 ∧ 0 + 8 ≤ vs.length := ⟨rfl, by omega⟩
  simp only [aStore, h, if_pos hb]
  rw [show (V.agg (cE e)).cells = cE e from rfl, setRange_all (by rw [hv]; rfl)]
theorem agg8 : asAggT (aFill [.int .i64 0, .int .i64 0, .int .i64 0, .int .i64 0, .int .i64 0, .int .i64 0, .int .u32 0, .str []] []) = some (AE ent0) := rfl

theorem same_run (d : Nat) (wf : s.wf) (a b : Ent) : ∃ t, R (d + 1) 39 [AE a, AE b] s = some (B (decide (a = b)), t) ∧ Gr s t := by
  rw [f39_run]
  unfold f39
  obtain ⟨s1, hs1⟩ : ∃ s1, s1 = s.push (.cells true (cE a)) := ⟨_, rfl⟩
  have nw1 : aNew s (nBox (AE a)) = some (Z (.ptr s.size 0), s1) := by rw [hs1]; rfl
  have g1 : Gr s s1 := by rw [hs1]; exact Gr.push wf _
  have h1 : s1.get s.size = some (.cells true (cE a)) := by rw [hs1]; exact St.get_push_same _ _
  obtain ⟨s2, hs2⟩ : ∃ s2, s2 = s1.push (.cells true (cE b)) := ⟨_, rfl⟩
  have nw2 : aNew s1 (nBox (AE b)) = some (Z (.ptr s1.size 0), s2) := by rw [hs2]; rfl
  have g2 : Gr s1 s2 := by rw [hs2]; exact Gr.push g1.wf _
  have h2 : s2.get s1.size = some (.cells true (cE b)) := by rw [hs2]; exact St.get_push_same _ _
  have l1 := load8 (g := s2.get) (g2.get h1 g1.wf)
  have l2 := load8 (g := s2.get) h2
  have e := eqBE a b
  exact ⟨s2, by simp [nw1, nw2, l1, l2, e], g1.trans g2⟩

theorem id_run (d : Nat) (n : Int) : R (d + 1) 50 [I .i64 n] s = some (B (idOk n), s) := by
  rw [f50_run]
  unfold f50
  by_cases h : 1 ≤ n
  · simp [idOk, h]
  · simp [idOk, h]

theorem mayE_run (d : Nat) (wf : s.wf) (e : Ent) : ∃ t, R (d + 8) 30 [AE e] s = some (B (mayE e), t) ∧ Gr s t := by
  rw [f30_run]
  unfold f30
  obtain ⟨s1, hs1⟩ : ∃ s1, s1 = s.push (.cells true (cE e)) := ⟨_, rfl⟩
  have nw1 : aNew s (nBox (AE e)) = some (Z (.ptr s.size 0), s1) := by rw [hs1]; rfl
  have g1 : Gr s s1 := by rw [hs1]; exact Gr.push wf _
  have h1 : s1.get s.size = some (.cells true (cE e)) := by rw [hs1]; exact St.get_push_same _ _
  have l0 : aLoad1 (Z (.ptr s.size 0)) s1.get = some (I .i64 e.k) := aLoad1_of h1 rfl
  have l1 : aLoad1 (Z (.ptr s.size 1)) s1.get = some (I .i64 e.v) := aLoad1_of h1 rfl
  have l2 : aLoad1 (Z (.ptr s.size 2)) s1.get = some (I .i64 e.i) := aLoad1_of h1 rfl
  have l3 : aLoad1 (Z (.ptr s.size 3)) s1.get = some (I .i64 e.t) := aLoad1_of h1 rfl
  have l4 : aLoad1 (Z (.ptr s.size 4)) s1.get = some (I .i64 e.f) := aLoad1_of h1 rfl
  have l5 : aLoad1 (Z (.ptr s.size 5)) s1.get = some (I .i64 e.o) := aLoad1_of h1 rfl
  have l7 : aLoad1 (Z (.ptr s.size 7)) s1.get = some (Z (.str e.x)) := aLoad1_of h1 rfl
  have l8 := load8 (g := s1.get) h1
  have eid := id_run (s := s1) (d + 6) e.i
  simp only [Nat.add_assoc, Nat.reduceAdd] at eid
  by_cases c1 : e.v < 0
  · refine ⟨s1, ?_, g1⟩
    have hm : mayE e = false := by simp [mayE, c1]
    rw [hm]
    simp [nw1, l1, c1]
  · by_cases c2 : 1073741824 < e.v
    · refine ⟨s1, ?_, g1⟩
      have hm : mayE e = false := by simp [mayE, c2]
      rw [hm]
      simp [nw1, l1, c1, c2]
    · have hv : ¬ (e.v < 0 ∨ 1073741824 < e.v) := fun h => h.elim c1 c2
      by_cases k1 : e.k = 1
      · have hm : mayE e = (decide (e.x = []) && idOk e.i && decide (0 ≤ e.t) && decide (e.t < 4) && decide (0 ≤ e.f) && decide (e.f < e.o) && decide (e.o ≤ 1099511627776)) := by
          unfold mayE; rw [if_neg hv, if_pos k1]
        rw [hm]
        refine ⟨s1, ?_, g1⟩
        by_cases d1 : e.x = []
        · cases d2 : idOk e.i with
          | true =>
            rw [d2] at eid
            by_cases d3 : 0 ≤ e.t
            · by_cases d4 : e.t < 4
              · by_cases d5 : 0 ≤ e.f
                · by_cases d6 : e.f < e.o
                  · simp [nw1, l0, l1, l2, l3, l4, l5, l7, c1, c2, k1, d1, eid, d3, d4, d5, d6]
                  · simp [nw1, l0, l1, l2, l3, l4, l5, l7, c1, c2, k1, d1, eid, d3, d4, d5, d6]
                · simp [nw1, l0, l1, l2, l3, l4, l5, l7, c1, c2, k1, d1, eid, d3, d4, d5]
              · simp [nw1, l0, l1, l2, l3, l4, l5, l7, c1, c2, k1, d1, eid, d3, d4]
            · simp [nw1, l0, l1, l2, l3, l4, l5, l7, c1, c2, k1, d1, eid, d3]
          | false =>
            rw [d2] at eid
            simp [nw1, l0, l1, l2, l3, l4, l5, l7, c1, c2, k1, d1, eid]
        · simp [nw1, l0, l1, l2, l3, l4, l5, l7, c1, c2, k1, d1]
      · by_cases k2 : e.k = 2
        · have hm : mayE e = (idOk e.i && decide (e = { ent0 with k := 2, v := e.v, i := e.i })) := by
            unfold mayE; rw [if_neg hv, if_neg k1, if_pos k2]
          rw [hm]
          refine ⟨s1, ?_, g1⟩
          have ag : asAggT (aFill [.int .i64 0, .int .i64 0, .int .i64 0, .int .i64 0, .int .i64 0, .int .i64 0, .int .u32 0, .str []] [(0, 1, (I .i64 2)), (1, 1, I .i64 e.v), (2, 1, I .i64 e.i)]) = some (AE { ent0 with k := 2, v := e.v, i := e.i }) := rfl
          have eq := eqBE e { ent0 with k := 2, v := e.v, i := e.i }
          generalize hD : decide (e = { ent0 with k := 2, v := e.v, i := e.i }) = D at *
          generalize ({ ent0 with k := 2, v := e.v, i := e.i } : Ent) = e2 at *
          cases d2 : idOk e.i with
          | true =>
            rw [d2] at eid
            simp [nw1, l0, l1, l2, l8, c1, c2, k2, eid, ag, eq]
          | false =>
            rw [d2] at eid
            simp [nw1, l0, l1, l2, l8, c1, c2, k2, eid]
        · by_cases k3 : e.k = 3
          · have hm : mayE e = (decide (0 < e.v) && decide (e = { ent0 with k := 3, v := e.v })) := by
              unfold mayE; rw [if_neg hv, if_neg k1, if_neg k2, if_pos k3]
            rw [hm]
            refine ⟨s1, ?_, g1⟩
            have ag : asAggT (aFill [.int .i64 0, .int .i64 0, .int .i64 0, .int .i64 0, .int .i64 0, .int .i64 0, .int .u32 0, .str []] [(0, 1, (I .i64 3)), (1, 1, I .i64 e.v)]) = some (AE { ent0 with k := 3, v := e.v }) := rfl
            have eq := eqBE e { ent0 with k := 3, v := e.v }
            generalize hD : decide (e = { ent0 with k := 3, v := e.v }) = D at *
            generalize ({ ent0 with k := 3, v := e.v } : Ent) = e2 at *
            by_cases d1 : 0 < e.v
            · simp [nw1, l0, l1, l8, c1, c2, k3, d1, ag, eq]
            · simp [nw1, l0, l1, l8, c1, c2, k3, d1]
          · by_cases k4 : e.k = 4
            · have hm : mayE e = (decide (e.x.length ≤ 300) && decide (e = { ent0 with k := 4, v := e.v, x := e.x }) && decide ((parseP e.x).2.1 = 0)) := by
                unfold mayE; rw [if_neg hv, if_neg k1, if_neg k2, if_neg k3, if_pos k4]
              rw [hm]
              have ag : asAggT (aFill [.int .i64 0, .int .i64 0, .int .i64 0, .int .i64 0, .int .i64 0, .int .i64 0, .int .u32 0, .str []] [(0, 1, (I .i64 4)), (1, 1, I .i64 e.v), (7, 1, Z (.str e.x))]) = some (AE { ent0 with k := 4, v := e.v, x := e.x }) := rfl
              have eq := neBE e { ent0 with k := 4, v := e.v, x := e.x }
              generalize hD : decide (e = { ent0 with k := 4, v := e.v, x := e.x }) = D at *
              generalize ({ ent0 with k := 4, v := e.v, x := e.x } : Ent) = e2 at *
              by_cases d1 : e.x.length ≤ 300
              · have d1' : ¬ (300 : Int) < (e.x.length : Int) := by omega
                cases D with
                | false =>
                  refine ⟨s1, ?_, g1⟩
                  simp [nw1, l0, l1, l7, l8, c1, c2, k4, d1', ag, eq]
                | true =>
                  obtain ⟨s2, e2', g2⟩ := parse_run (l := e.x) d g1.wf (by omega)
                  obtain ⟨s3, hs3⟩ : ∃ s3, s3 = s2.push (.cells true (cP pol0)) := ⟨_, rfl⟩
                  have nw3 : aNew s2 (nCells [.int .i64 0, .int .i64 0, .int .i64 0, .int .i64 0, .int .i64 0, .int .i64 0]) = some (Z (.ptr s2.size 0), s3) := by rw [hs3]; rfl
                  have g3 : Gr s2 s3 := by rw [hs3]; exact Gr.push g2.wf _
                  have st := store6 (p := (parseP e.x).1) (s := s3) (i := s2.size) (vs := cP pol0) (by rw [hs3]; exact St.get_push_same _ _) rfl
                  refine ⟨s3.set s2.size (.cells true (cP (parseP e.x).1)), ?_, g1.trans (g2.trans ⟨St.wf_set g3.wf (by rw [hs3]; simp) _, by simp; exact g3.2.1, fun b hb => by rw [St.get_set_ne _ _ (by omega)]; exact g3.2.2 b hb⟩)⟩
                  generalize R (d + 7) = r at *
                  simp [nw1, l0, l1, l7, l8, c1, c2, k4, d1', d1, ag, eq, e2', aExtract, nw3, st]
              · have d1' : (300 : Int) < (e.x.length : Int) := by omega
                refine ⟨s1, ?_, g1⟩
                simp [nw1, l0, l1, l7, c1, c2, k4, d1', d1]
            · have hm : mayE e = false := by unfold mayE; rw [if_neg hv, if_neg k1, if_neg k2, if_neg k3, if_neg k4]
              rw [hm]
              refine ⟨s1, ?_, g1⟩
              simp [nw1, l0, l1, c1, c2, k1, k2, k3, k4]

/-! ### Put -/

def nums (e : Ent) : List Nat :=
  if e.k = 1 then [e.i.toNat, e.t.toNat, e.f.toNat, e.o.toNat, e.u.toNat] else if e.k = 2 then [e.i.toNat] else if e.k = 4 then [e.x.length] else []
def putNs : List Nat → Bs
  | [] => []
  | n :: r => vput n ++ putNs r
def putB (e : Ent) : Bs := UInt8.ofNat e.k.toNat :: (vput e.v.toNat ++ putNs (nums e) ++ e.x)
def putE (e : Ent) : Option Bs := if mayE e then some (putB e) else none

def u64S (l : List Nat) : List S := l.map fun n : Nat => S.int .u64 ((n : Nat) : Int)
@[simp] theorem u64S_len (l : List Nat) : (u64S l).length = l.length := by simp [u64S]

theorem putNs_len : ∀ l : List Nat, (putNs l).length ≤ 11 * l.length
  | [] => by simp [putNs]
  | n :: r => by have := vput_len n; have := putNs_len r; simp [putNs]; omega
theorem putNs_snoc : ∀ (l : List Nat) (n : Nat), putNs (l ++ [n]) = putNs l ++ vput n
  | [], n => by simp [putNs]
  | m :: r, n => by simp [putNs, putNs_snoc r n]

theorem nums_len (e : Ent) : (nums e).length ≤ 5 := by
  unfold nums
  split
  · simp
  · split
    · simp
    · split <;> simp

theorem nums_loop (d : Nat) {s0 : St} {v0 : T} {acc : Bs} {ns : List Nat} (hb : FB s0 s y acc) (hx : Rd 1 s x ns.length (u64S ns)) (hox : ∀ c, own x = some c → c < s.size ∧ own y ≠ some c ∧ s0.size ≤ c) (hn : ∀ n ∈ ns, n < 2 ^ 64) (hl : ns.length ≤ 5) (ha : acc.length ≤ 1000) :
    ∃ (z : S) (τ : St), loops (f31_l1 (R (d + 1)) 8192) 8192 [v0, Z y, Z x, I .i64 ns.length, I .i64 0] s = some (.exit 1 [v0, Z z], τ) ∧ FB s0 τ z (acc ++ putNs ns) := by
  obtain ⟨j, τ, lp, z, rfl, hf⟩ := loops_inv (f := f31_l1 (R (d + 1)) 8192) (fun q v u => ∃ (k : Nat) (z : S), q + k = ns.length ∧ v = [v0, Z z, Z x, I .i64 ns.length, I .i64 k] ∧ FB s0 u z (acc ++ putNs (ns.take k)) ∧ Rd 1 u x ns.length (u64S ns) ∧ (∀ c, own x = some c → c < u.size ∧ own z ≠ some c))
    (fun j u => ∃ z, j = .exit 1 [v0, Z z] ∧ FB s0 u z (acc ++ putNs ns)) (by
    rintro q v u ⟨k, z, hk, rfl, hf, hr, ho⟩
    by_cases hkl : k < ns.length
    · left
      have hc : ns[k]? = some ns[k] := List.getElem?_eq_getElem hkl
      obtain ⟨p, ix, ld⟩ := Rd.at1 hr (n := ns.length) (i := (k : Int)) (v := .int .u64 (ns[k] : Int)) rfl (by simp [u64S, hc])
      have c0 : (k : Int) < (ns.length : Int) := by omega
      have w1 : IntKind.i64.wrap ((k : Int) + 1) = ((k + 1 : Nat) : Int) := by rw [wrap_in _ (by omega) (by omega)]; omega
      have htk : ns.take (k + 1) = ns.take k ++ [ns[k]] := by rw [List.take_add_one, hc]; rfl
      obtain ⟨p1, u1, e1, f1⟩ := vput_run d hf.gr.wf ns[k] (hn _ (List.getElem_mem hkl))
      have hf1 : FB s0 u1 z (acc ++ putNs (ns.take k)) := hf.gr' f1.gr
      have hpl : (putNs (ns.take k)).length ≤ 55 := by have := putNs_len (ns.take k); rw [List.length_take] at this; omega
      obtain ⟨z2, u2, ap, hf2, hz2, keep2, new2⟩ := FB.app' hf1 f1.rd (by have := vput_len ns[k]; simp; omega)
      have hr2 : Rd 1 u2 x ns.length (u64S ns) := hr.keep fun c hc' => by rw [keep2 c (Nat.lt_of_lt_of_le (ho c hc').1 f1.gr.2.1) (ho c hc').2, f1.gr.2.2 c (ho c hc').1]
      have ho2 : ∀ c, own x = some c → c < u2.size ∧ own z2 ≠ some c := fun c hc' => by
        have h1 := (ho c hc').1
        have h2 := f1.gr.2.1
        refine ⟨by omega, fun e => ?_⟩
        rcases new2 with n | n | ⟨c', n, hc2⟩
        · rw [n] at e; cases e
        · rw [n] at e; exact (ho c hc').2 e
        · rw [n] at e; cases e; omega
      refine ⟨[v0, Z z2, Z x, I .i64 ns.length, I .i64 ((k + 1 : Nat) : Int)], u2, q - 1, ?_, by omega, k + 1, z2, by omega, rfl, by rw [htk, putNs_snoc, ← List.append_assoc]; exact hf2, hr2, ho2⟩
      unfold f31_l1
      generalize R (d + 1) = r at *
      generalize ((k + 1 : Nat) : Int) = K1 at w1 ⊢
      generalize (k : Int) = K at *
      generalize (ns[k] : Int) = NK at *
      generalize (ns.length : Int) = L at *
      simp [c0, ix, ld, e1, ap, w1]
    · right
      have hk' : k = ns.length := by omega
      subst hk'
      rw [List.take_length] at hf
      refine ⟨.exit 1 [v0, Z z], u, ?_, (fun v hv => by cases hv), z, rfl, hf⟩
      unfold f31_l1
      simp) 8192 ns.length [v0, Z y, Z x, I .i64 ns.length, I .i64 0] s ⟨0, y, by omega, rfl, by simpa [putNs] using hb, hx, fun c hc => ⟨(hox c hc).1, (hox c hc).2.1⟩⟩ (by omega)
  exact ⟨z, τ, lp, hf⟩

def EWf (e : Ent) : Prop := 0 ≤ e.u ∧ e.u < 4294967296

theorem mayE_range {e : Ent} (h : mayE e = true) : 0 ≤ e.v ∧ e.v ≤ 1073741824 ∧ 1 ≤ e.k ∧ e.k ≤ 4 ∧ (e.k = 1 → e.x = [] ∧ 1 ≤ e.i ∧ e.i ≤ 1073741824 ∧ 0 ≤ e.t ∧ e.t < 4 ∧ 0 ≤ e.f ∧ e.f < e.o ∧ e.o ≤ 1099511627776) ∧
    (e.k = 2 → 1 ≤ e.i ∧ e.i ≤ 1073741824 ∧ e = { ent0 with k := 2, v := e.v, i := e.i }) ∧ (e.k = 3 → 0 < e.v ∧ e = { ent0 with k := 3, v := e.v }) ∧ (e.k = 4 → e.x.length ≤ 300 ∧ e = { ent0 with k := 4, v := e.v, x := e.x } ∧ (parseP e.x).2.1 = 0) := by
  unfold mayE at h
  split at h
  · cases h
  · rename_i hv
    have hv' : 0 ≤ e.v ∧ e.v ≤ 1073741824 := by omega
    refine ⟨hv'.1, hv'.2, ?_⟩
    by_cases k1 : e.k = 1
    · rw [if_pos k1] at h
      simp only [Bool.and_eq_true, decide_eq_true_eq, idOk] at h
      refine ⟨by omega, by omega, fun _ => ?_, (fun h2 => by omega), (fun h2 => by omega), (fun h2 => by omega)⟩
      obtain ⟨⟨⟨⟨⟨⟨a, b, b'⟩, c⟩, d⟩, f⟩, g⟩, o⟩ := h
      exact ⟨a, b, b', c, d, f, g, o⟩
    · rw [if_neg k1] at h
      by_cases k2 : e.k = 2
      · rw [if_pos k2] at h
        simp only [Bool.and_eq_true, decide_eq_true_eq, idOk] at h
        exact ⟨by omega, by omega, (fun h2 => by omega), fun _ => ⟨h.1.1, h.1.2, h.2⟩, (fun h2 => by omega), (fun h2 => by omega)⟩
      · rw [if_neg k2] at h
        by_cases k3 : e.k = 3
        · rw [if_pos k3] at h
          simp only [Bool.and_eq_true, decide_eq_true_eq] at h
          exact ⟨by omega, by omega, (fun h2 => by omega), (fun h2 => by omega), fun _ => h, (fun h2 => by omega)⟩
        · rw [if_neg k3] at h
          by_cases k4 : e.k = 4
          · rw [if_pos k4] at h
            simp only [Bool.and_eq_true, decide_eq_true_eq] at h
            exact ⟨by omega, by omega, (fun h2 => by omega), (fun h2 => by omega), (fun h2 => by omega), fun _ => ⟨h.1.1, h.1.2, h.2⟩⟩
          · rw [if_neg k4] at h
            cases h

theorem nums_lt {e : Ent} (h : mayE e = true) (hw : EWf e) : ∀ n ∈ nums e, n < 2 ^ 64 := by
  obtain ⟨_, _, _, _, h1, h2, _, h4⟩ := mayE_range h
  have := hw.2
  intro n hn
  unfold nums at hn
  split at hn
  · rename_i k
    have := h1 k
    simp at hn
    rcases hn with rfl | rfl | rfl | rfl | rfl <;> omega
  · split at hn
    · rename_i k
      have := h2 k
      simp at hn
      omega
    · split at hn
      · rename_i k
        have := h4 k
        simp at hn
        omega
      · cases hn

theorem mayE_x {e : Ent} (h : mayE e = true) : e.x.length ≤ 300 := by
  obtain ⟨_, _, k1, k4, h1, h2, h3, h4⟩ := mayE_range h
  by_cases e1 : e.k = 1
  · rw [(h1 e1).1]; simp
  · by_cases e2 : e.k = 2
    · rw [(h2 e2).2.2]; simp [ent0]
    · by_cases e3 : e.k = 3
      · rw [(h3 e3).2]; simp [ent0]
      · exact (h4 (by omega)).1

theorem put_bad (d : Nat) (wf : s.wf) {e : Ent} (h : mayE e = false) : ∃ t, R (d + 9) 31 [AE e] s = some (.tup [.s .nils, .s (.int .i64 1)], t) ∧ Gr s t := by
  rw [f31_run]
  unfold f31
  obtain ⟨s1, hs1⟩ : ∃ s1, s1 = s.push (.cells true (cE e)) := ⟨_, rfl⟩
  have nw1 : aNew s (nBox (AE e)) = some (Z (.ptr s.size 0), s1) := by rw [hs1]; rfl
  have g1 : Gr s s1 := by rw [hs1]; exact Gr.push wf _
  have h1 : s1.get s.size = some (.cells true (cE e)) := by rw [hs1]; exact St.get_push_same _ _
  have l8 := load8 (g := s1.get) h1
  obtain ⟨s2, e2, g2⟩ := mayE_run d g1.wf e
  rw [h] at e2
  exact ⟨s2, by simp [nw1, l8, e2, retT, allV], g1.trans g2⟩

theorem put_run (d : Nat) (wf : s.wf) {e : Ent} (h : mayE e = true) (hw : EWf e) : ∃ y t, R (d + 9) 31 [AE e] s = some (.tup [.s y, .s (.int .i64 0)], t) ∧ FB s t y (putB e) := by
  rw [f31_run]
  unfold f31
  obtain ⟨r1, r2, r3, r4, hk1, hk2, hk3, hk4⟩ := mayE_range h
  obtain ⟨s1, hs1⟩ : ∃ s1, s1 = s.push (.cells true (cE e)) := ⟨_, rfl⟩
  have nw1 : aNew s (nBox (AE e)) = some (Z (.ptr s.size 0), s1) := by rw [hs1]; rfl
  have g1 : Gr s s1 := by rw [hs1]; exact Gr.push wf _
  have h1 : s1.get s.size = some (.cells true (cE e)) := by rw [hs1]; exact St.get_push_same _ _
  have z1 : s1.size = s.size + 1 := by rw [hs1]; rfl
  have l8 := load8 (g := s1.get) h1
  obtain ⟨s2, e2, g2⟩ := mayE_run d g1.wf e
  rw [h] at e2
  have h2 : s2.get s.size = some (.cells true (cE e)) := g2.get h1 g1.wf
  have hz2 : s.size + 1 ≤ s2.size := by have := g2.2.1; omega
  have lk : aLoad1 (Z (.ptr s.size 0)) s2.get = some (I .i64 e.k) := aLoad1_of h2 rfl
  have wk : IntKind.u8.wrap e.k = ((UInt8.ofNat e.k.toNat).toNat : Int) := by
    have := wrap8 e.k.toNat
    rw [show ((e.k.toNat : Nat) : Int) = e.k by omega] at this
    rw [this, byte_nat]
  obtain ⟨kb, hkb⟩ : ∃ kb, kb = UInt8.ofNat e.k.toNat := ⟨_, rfl⟩
  rw [← hkb] at wk
  obtain ⟨s4, hs4⟩ : ∃ s4, s4 = s2.push (.cells true (U [kb])) := ⟨_, rfl⟩
  have nw4 : aNew s2 (nSlice 1 (aFill [.int .u8 0] [(0, 1, I .u8 kb.toNat)])) = some (Z (.sl s2.size 0 1 (.known 1)), s4) := by rw [hs4, lit1]; rfl
  have f4 : FB s2 s4 (.sl s2.size 0 1 (.known 1)) [kb] := by rw [hs4]; exact Fr.lit 1 g2.wf rfl
  have h4 : s4.get s.size = some (.cells true (cE e)) := f4.gr.get h2 g2.wf
  have lv : aLoad1 (Z (.ptr s.size 1)) s4.get = some (I .i64 e.v) := aLoad1_of h4 rfl
  have wv : IntKind.u64.wrap e.v = (e.v.toNat : Int) := by rw [wrap_u64_in _ (by omega) (by omega)]; omega
  obtain ⟨y5, s5, e5, f5⟩ := vput_run (d + 7) f4.gr.wf e.v.toNat (by omega)
  have h5 : s5.get s.size = some (.cells true (cE e)) := f5.gr.get h4 f4.gr.wf
  have lk5 : aLoad1 (Z (.ptr s.size 0)) s5.get = some (I .i64 e.k) := aLoad1_of h5 rfl
  have hov : overlay 8 s5.get (ovO 3 s2.size (nSlice 1 (aFill [.int .u8 0] [(0, 1, I .u8 kb.toNat)])) []) = s5.get := rfl
  have f45 : FB s2 s5 (.sl s2.size 0 1 (.known 1)) [kb] := f4.gr' f5.gr
  obtain ⟨y6, s6, ap6, f6, z6, k6, n6⟩ := FB.app' f45 f5.rd (by have := vput_len e.v.toNat; simp; omega)
  have h6 : s6.get s.size = some (.cells true (cE e)) := f6.gr.get h2 g2.wf
  have hacc : ([kb] ++ vput e.v.toNat).length ≤ 1000 := by have := vput_len e.v.toNat; simp; omega
  have L : ∀ (j : Nat) (x : S), (cE e)[j]? = some x → aLoad1 (Z (.ptr s.size j)) s6.get = some (Z x) := fun j x hx => aLoad1_of h6 hx
  have l0 := L 0 _ rfl
  have l2 := L 2 _ rfl
  have l3 := L 3 _ rfl
  have l4 := L 4 _ rfl
  have l5 := L 5 _ rfl
  have l6 := L 6 _ rfl
  have l7 := L 7 _ rfl
  have fin : ∀ (z : S) (τ : St), FB s2 τ z ([kb] ++ vput e.v.toNat ++ putNs (nums e)) → ∃ y t, aLoad1 (Z (.ptr s.size 7)) τ.get = some (Z (.str e.x)) ∧ aAppend 1 1 (Z z) (Z (.str e.x)) τ = some (Z y, t) ∧ FB s t y (putB e) := fun z τ hf => by
    have hx := mayE_x h
    have hn := putNs_len (nums e)
    have hn2 := nums_len e
    obtain ⟨y, t, ap, hf2, _⟩ := FB.appStr (cs := e.x) hf (by simp at hacc ⊢; omega)
    refine ⟨y, t, aLoad1_of (hf.gr.get h2 g2.wf) rfl, ap, ?_⟩
    have e1 : [kb] ++ vput e.v.toNat ++ putNs (nums e) ++ e.x = putB e := by rw [hkb]; simp [putB]
    rw [e1] at hf2
    exact hf2.from (g1.trans g2)
  have hlt := nums_lt h hw
  have hnl := nums_len e
  have own6 : ∀ c, own y6 = some c → c < s6.size := fun c hc => (f6.new c hc).2
  have num : ∀ n, n = (nums e).length → ∃ z τ, loops (f31_l1 (R (d + 8)) 8192) 8192 [Z (.ptr s.size 0), Z y6, Z (.sl s6.size 0 n (.known n)), I .i64 (n : Nat), I .i64 0] (s6.push (.cells true (u64S (nums e)))) = some (.exit 1 [Z (.ptr s.size 0), Z z], τ) ∧ FB s2 τ z ([kb] ++ vput e.v.toNat ++ putNs (nums e)) := fun n hn => by
    subst hn
    have L := Fr.lit 1 f6.gr.wf (n := (nums e).length) (vs := u64S (nums e)) (by simp)
    exact nums_loop (d + 7) (v0 := Z (.ptr s.size 0)) (f6.gr' L.gr) L.rd (fun c hc => by
      cases hc
      exact ⟨by simp, (fun e => by have := own6 _ e; omega), by have := f6.gr.2.1; omega⟩) hlt hnl hacc
  simp only [Nat.add_assoc, Nat.reduceAdd] at e5
  by_cases c1 : e.k = 1
  · have ns : nums e = [e.i.toNat, e.t.toNat, e.f.toNat, e.o.toNat, e.u.toNat] := by unfold nums; rw [if_pos c1]
    obtain ⟨_, i1, i2, t1, t2, q1, q2, q3⟩ := hk1 c1
    have hu := hw.1
    have hu2 := hw.2
    have w2 : IntKind.u64.wrap e.i = (e.i.toNat : Int) := by rw [wrap_u64_in _ (by omega) (by omega)]; omega
    have w3 : IntKind.u64.wrap e.t = (e.t.toNat : Int) := by rw [wrap_u64_in _ (by omega) (by omega)]; omega
    have w4 : IntKind.u64.wrap e.f = (e.f.toNat : Int) := by rw [wrap_u64_in _ (by omega) (by omega)]; omega
    have w5 : IntKind.u64.wrap e.o = (e.o.toNat : Int) := by rw [wrap_u64_in _ (by omega) (by omega)]; omega
    have w6 : IntKind.u64.wrap e.u = (e.u.toNat : Int) := by rw [wrap_u64_in _ (by omega) (by omega)]; omega
    obtain ⟨z, τ, lp, hf⟩ := num 5 (by rw [ns]; rfl)
    obtain ⟨y, t, lx, apx, hf2⟩ := fin z τ hf
    have nw7 : aNew s6 (nSlice 5 (aFill [.int .u64 0, .int .u64 0, .int .u64 0, .int .u64 0, .int .u64 0] [(0, 1, I .u64 (e.i.toNat : Int)), (1, 1, I .u64 (e.t.toNat : Int)), (2, 1, I .u64 (e.f.toNat : Int)), (3, 1, I .u64 (e.o.toNat : Int)), (4, 1, I .u64 (e.u.toNat : Int))])) =
        some (Z (.sl s6.size 0 5 (.known 5)), s6.push (.cells true (u64S (nums e)))) := by rw [ns]; rfl
    refine ⟨y, t, ?_, hf2⟩
    generalize s6.push (.cells true (u64S (nums e))) = s7 at *
    generalize R (d + 8) = r at *
    generalize (e.i.toNat : Int) = A2 at *
    generalize (e.t.toNat : Int) = A3 at *
    generalize (e.f.toNat : Int) = A4 at *
    generalize (e.o.toNat : Int) = A5 at *
    generalize (e.u.toNat : Int) = A6 at *
    generalize (e.v.toNat : Int) = A1 at *
    generalize (kb.toNat : Int) = KB at *
    have w1' : IntKind.u8.wrap 1 = KB := by rw [← c1]; exact wk
    have lq : loops (f31_l1 r 8192) 8192 [Z (.ptr s.size 0), Z y6, Z (.sl s6.size 0 5 (.known 5)), I .i64 5, I .i64 0] s7 = some (.exit 1 [Z (.ptr s.size 0), Z z], τ) := lp
    simp [nw1, l8, e2, lk, c1, w1', nw4, lv, wv, e5, ap6, hov, lk5, l0, l2, l3, l4, l5, l6, w2, w3, w4, w5, w6, nw7, lq, lx, apx, retT, allV]
  · by_cases c2 : e.k = 2
    · have ns : nums e = [e.i.toNat] := by unfold nums; rw [if_neg c1, if_pos c2]
      obtain ⟨i1, i2, _⟩ := hk2 c2
      have w2 : IntKind.u64.wrap e.i = (e.i.toNat : Int) := by rw [wrap_u64_in _ (by omega) (by omega)]; omega
      obtain ⟨z, τ, lp, hf⟩ := num 1 (by rw [ns]; rfl)
      obtain ⟨y, t, lx, apx, hf2⟩ := fin z τ hf
      have nw7 : aNew s6 (nSlice 1 (aFill [.int .u64 0] [(0, 1, I .u64 (e.i.toNat : Int))])) = some (Z (.sl s6.size 0 1 (.known 1)), s6.push (.cells true (u64S (nums e)))) := by rw [ns]; rfl
      refine ⟨y, t, ?_, hf2⟩
      generalize s6.push (.cells true (u64S (nums e))) = s7 at *
      generalize R (d + 8) = r at *
      generalize (e.i.toNat : Int) = A2 at *
      generalize (e.v.toNat : Int) = A1 at *
      generalize (kb.toNat : Int) = KB at *
      have w1' : IntKind.u8.wrap 2 = KB := by rw [← c2]; exact wk
      have lq : loops (f31_l1 r 8192) 8192 [Z (.ptr s.size 0), Z y6, Z (.sl s6.size 0 1 (.known 1)), I .i64 1, I .i64 0] s7 = some (.exit 1 [Z (.ptr s.size 0), Z z], τ) := lp
      simp [nw1, l8, e2, lk, c2, w1', nw4, lv, wv, e5, ap6, hov, lk5, l0, l2, w2, nw7, lq, lx, apx, retT, allV]
    · by_cases c4 : e.k = 4
      · have ns : nums e = [e.x.length] := by unfold nums; rw [if_neg c1, if_neg c2, if_pos c4]
        have hx := mayE_x h
        have w2 : IntKind.u64.wrap (e.x.length : Int) = (e.x.length : Int) := wrap64 _ (by omega)
        obtain ⟨z, τ, lp, hf⟩ := num 1 (by rw [ns]; rfl)
        obtain ⟨y, t, lx, apx, hf2⟩ := fin z τ hf
        have nw7 : aNew s6 (nSlice 1 (aFill [.int .u64 0] [(0, 1, I .u64 (e.x.length : Int))])) = some (Z (.sl s6.size 0 1 (.known 1)), s6.push (.cells true (u64S (nums e)))) := by rw [ns]; rfl
        refine ⟨y, t, ?_, hf2⟩
        generalize s6.push (.cells true (u64S (nums e))) = s7 at *
        generalize R (d + 8) = r at *
        generalize (e.v.toNat : Int) = A1 at *
        generalize (kb.toNat : Int) = KB at *
        have w1' : IntKind.u8.wrap 4 = KB := by rw [← c4]; exact wk
        have lq : loops (f31_l1 r 8192) 8192 [Z (.ptr s.size 0), Z y6, Z (.sl s6.size 0 1 (.known 1)), I .i64 1, I .i64 0] s7 = some (.exit 1 [Z (.ptr s.size 0), Z z], τ) := lp
        simp [nw1, l8, e2, lk, c4, w1', nw4, lv, wv, e5, ap6, hov, lk5, l0, l7, w2, nw7, lq, lx, apx, retT, allV]
      · have c3 : e.k = 3 := by omega
        have ns : nums e = [] := by unfold nums; rw [if_neg c1, if_neg c2, if_neg c4]
        obtain ⟨z, τ, lp, hf⟩ := nums_loop (x := .nils) (ns := []) (d + 7) (v0 := Z (.ptr s.size 0)) f6 (Rd.nil 1 _) (fun c hc => by cases hc) (fun n hn => by cases hn) (by simp) hacc
        rw [← ns] at hf
        obtain ⟨y, t, lx, apx, hf2⟩ := fin z τ hf
        refine ⟨y, t, ?_, hf2⟩
        simp only [Nat.add_assoc, Nat.reduceAdd] at lp
        generalize R (d + 8) = r at *
        generalize (e.v.toNat : Int) = A1 at *
        generalize (kb.toNat : Int) = KB at *
        have w1' : IntKind.u8.wrap 3 = KB := by rw [← c3]; exact wk
        have lq : loops (f31_l1 r 8192) 8192 [Z (.ptr s.size 0), Z y6, Z .nils, I .i64 0, I .i64 0] s6 = some (.exit 1 [Z (.ptr s.size 0), Z z], τ) := lp
        simp [nw1, l8, e2, lk, c3, w1', nw4, lv, wv, e5, ap6, hov, lk5, l0, lq, lx, apx, retT, allV]
end
end Go.Proofs.YtlhbidbdmdcdeaaGreatDoor


/-
  slices.Delete of one element at a slice of unknown capacity. No conditions.
-/
namespace Go.Proofs.YtlhbidbdmdcdeaaGreatDoor
open Go Go.Abs Go.Abs.F
set_option linter.unusedVariables false
abbrev zI : List S := [.int .i64 0, .int .i64 0, .int .i64 0, .int .i64 0, .int .u32 0]

theorem aBounds_lhm {len cap lo hi m : Nat} (h : lo ≤ hi) (k : hi ≤ m) (l : m ≤ cap) : aBounds len cap (some (I .i64 lo)) (some (I .i64 hi)) (some (I .i64 m)) = some (lo, hi, m) := by
  have e : ∀ {a b : Nat}, a ≤ b → aBnd (I .i64 a) b = some a := fun {a b} h => by
    have h1 : (a : Int) ≤ (b : Int) := by omega
    simp [aBnd, h]
  delta aBounds
  dsimp only
  rw [e l]
  dsimp only
  rw [e k]
  dsimp only
  rw [e h]

theorem del_sound : CallSound Tryz.prog (delP 75 5 zI) := by
  refine grown_sound (plain_sound Tryz.prog 8 1) ?_
  intro f ts σ r h
  unfold delP at h
  split at h
  · cases h
  · rename_i hf
    have hf' := Nat.eq_of_beq_eq_true hf
    subst hf'
    split at h
    · rename_i i o n q a b
      split at h
      · rename_i vs hb
        split at h
        · rename_i hd
          have hd' := of_decide_eq_true hd
          obtain ⟨rfl, ha, rfl, hbn, hn, hv⟩ := hd'
          cases h
          obtain ⟨k, rfl⟩ : ∃ k : Nat, a = k := ⟨a.toNat, by omega⟩
          refine ⟨i, o, n, 5, n - 1, _, _, _, rfl, hb, rfl, fun c hc => ?_⟩
          have hkn : k + 1 ≤ n := by omega
          rw [Int.toNat_natCast]
          rw [(runQ_body rfl Tryz.func75 (by kernel_rfl)).trans (f75_eq _ _ _ _ _ _)]
          unfold f75
          have ek : ((k : Nat) : Int) + 1 = ((k + 1 : Nat) : Int) := by omega
          rw [ek]
          have p1 : aPieceSl 5 (Z (.sl i o n (.known c))) (some (I .i64 ((k : Nat) : Int))) (some (I .i64 ((k + 1 : Nat) : Int))) (some (I .i64 ((n : Nat) : Int))) = some (Z (.sl i (if n = k then o else o + k * 5) (k + 1 - k) (.known (n - k)))) := by
            simp only [aPieceSl, aBounds_lhm (show k ≤ k + 1 by omega) hkn hc]
          have p2 : aPieceSl 5 (Z (.sl i o n (.known c))) none (some (I .i64 ((k : Nat) : Int))) none = some (Z (.sl i o k (.known c))) := by
            simp only [aPieceSl, aBounds_hi (show k ≤ c by omega), Nat.zero_mul, Nat.add_zero, ite_self, Nat.sub_zero]
          have p3 : aPieceSl 5 (Z (.sl i o n (.known c))) (some (I .i64 ((k + 1 : Nat) : Int))) none none = some (Z (.sl i (if c = k + 1 then o else o + (k + 1) * 5) (n - (k + 1)) (.known (c - (k + 1))))) := by
            simp only [aPieceSl, aBounds_lo hkn hc]
          have src : aSrc 5 (Z (.sl i (if c = k + 1 then o else o + (k + 1) * 5) (n - (k + 1)) (.known (c - (k + 1))))) σ.get = some (n - (k + 1), (vs.drop (o + (k + 1) * 5)).take ((n - 1 - k) * 5)) := by
            by_cases hz : n - (k + 1) = 0
            · have : n - 1 - k = 0 := by omega
              simp [aSrc, hz, this]
            · have h1 : ¬ c = k + 1 := by omega
              have h2 : o + (k + 1) * 5 + (n - (k + 1)) * 5 ≤ vs.length := by omega
              have h3 : n - 1 - k = n - (k + 1) := by omega
              simp only [aSrc, if_neg hz, if_neg h1, hb, if_pos h2, h3]
          obtain ⟨v1, hv1⟩ : ∃ v1, v1 = setRange vs (o + k * 5) ((vs.drop (o + (k + 1) * 5)).take ((n - 1 - k) * 5)) := ⟨_, rfl⟩
          have hl1 : v1.length = vs.length := by rw [hv1, setRange_length]
          have ap : aAppend 5 40 (Z (.sl i o k (.known c))) (Z (.sl i (if c = k + 1 then o else o + (k + 1) * 5) (n - (k + 1)) (.known (c - (k + 1))))) σ = some (Z (.sl i o (n - 1) (.known c)), σ.set i (.cells true v1)) := by
            have h1 : (n - 1) * 40 ≤ 140737488355328 := by omega
            have h2 : n - 1 ≤ c := by omega
            have h3 : True ∧ o + k * 5 + (n - (k + 1)) * 5 ≤ vs.length := ⟨trivial, by omega⟩
            have h4 : k + (n - (k + 1)) = n - 1 := by omega
            simp only [aAppend, src, if_neg (show ¬ (5 : Nat) = 0 by decide), hb, h4]
            rw [if_pos h1, if_pos h2, if_pos h3, hv1]
          have p4 : aPieceSl 5 (Z (.sl i o (n - 1) (.known c))) (some (I .i64 ((n - 1 : Nat) : Int))) (some (I .i64 ((n : Nat) : Int))) none = some (Z (.sl i (o + (n - 1) * 5) (n - (n - 1)) (.known (c - (n - 1))))) := by
            have h1 : ¬ c = n - 1 := by omega
            simp only [aPieceSl, aBounds_lh (show n - 1 ≤ n by omega) hc, if_neg h1]
          have cl : aClear 5 zI (Z (.sl i (o + (n - 1) * 5) (n - (n - 1)) (.known (c - (n - 1))))) (σ.set i (.cells true v1)) = some (tt, (σ.set i (.cells true v1)).set i (.cells true (setRange v1 (o + (n - 1) * 5) zI))) := by
            have h1 : n - (n - 1) = 1 := by omega
            have h2 : o + (n - 1) * 5 + 1 * 5 ≤ v1.length := by omega
            simp only [aClear, h1, if_neg (show ¬ (1 : Nat) = 0 by decide), St.get_set_same, if_pos h2]
            rfl
          have le1 : aLenSl (Z (.sl i o n (.known c))) = some (I .i64 ((n : Nat) : Int)) := rfl
          have le2 : aLenSl (Z (.sl i o (n - 1) (.known c))) = some (I .i64 ((n - 1 : Nat) : Int)) := rfl
          simp only [zI] at cl ⊢
          clear hc hn hbn hv hkn ha
          have nk : ¬ (((k : Nat) : Int) = ((k + 1 : Nat) : Int)) := by omega
          rw [← hv1]
          generalize ((n - 1 : Nat) : Int) = N1 at *
          generalize ((n : Nat) : Int) = NN at *
          generalize ((k + 1 : Nat) : Int) = K1 at *
          generalize ((k : Nat) : Int) = K at *
          simp only [le1, le2, bd_some, p1, eql_int, decide_eq_false nk, br_false, p2, p3, ap, bd2_some, p4, cl]
        · cases h
      · cases h
    · cases h
end Go.Proofs.YtlhbidbdmdcdeaaGreatDoor


/-
  slices.Insert of one element ahead of another at a slice of unknown capacity. No conditions.
-/
namespace Go.Proofs.YtlhbidbdmdcdeaaGreatDoor
open Go Go.Abs Go.Abs.F
set_option linter.unusedVariables false

theorem over_ok : overT Tryz.prog 89 = true := by kernel_rfl

theorem ins_grow (a w b z : List S) (hz : z.length = w.length + b.length) : setRange (setRange (a ++ z) a.length w) (a.length + w.length) b = a ++ w ++ b := by
  rw [setRange_eq (a ++ z) a.length w (by simp; omega), List.take_left, setRange_eq _ _ b (by simp; omega)]
  rw [List.take_left' (by simp), List.drop_eq_nil_of_le (by simp; omega), List.append_nil]

theorem ins_room (a w b r : List S) (hr : w.length ≤ r.length) : (setRange (setRange (a ++ b ++ r) (a.length + w.length) b) a.length w).take (a.length + w.length + b.length) = a ++ w ++ b := by
  have hX : ∃ q, setRange (a ++ b ++ r) (a.length + w.length) b = a ++ (q ++ b ++ r.drop w.length) ∧ q.length = w.length := by
    refine ⟨(b ++ r).take w.length, ?_, by simp; omega⟩
    rw [setRange_eq _ _ b (by simp; omega), List.append_assoc a b r, List.take_append, List.drop_append]
    have e1 : a.take (a.length + w.length) = a := List.take_of_length_le (by omega)
    have e2 : a.drop (a.length + w.length + b.length) = [] := List.drop_eq_nil_of_le (by omega)
    have e3 : a.length + w.length + b.length - a.length = b.length + w.length := by omega
    rw [e1, e2, e3, Nat.add_sub_cancel_left, List.nil_append, List.drop_append, List.drop_eq_nil_of_le (by omega), List.nil_append, Nat.add_sub_cancel_left]
    simp only [List.append_assoc]
  obtain ⟨q, hq, hl⟩ := hX
  rw [hq, setRange_eq _ _ w (by simp; omega), List.take_left, List.drop_append, List.drop_eq_nil_of_le (by omega), List.nil_append, Nat.add_sub_cancel_left, List.append_assoc q, List.drop_left' hl, ← List.append_assoc (a ++ w), List.take_left' (by simp; omega)]

section
variable {σ : St} {i j p n k c : Nat} {vs us : List S}

theorem ins_facts (hkn : k < n) (hn : n ≤ 1000000) :
    aBin .eql (I .i64 1) (I .i64 0) = some (B false) ∧ aBin .eql (I .i64 ((k : Nat) : Int)) (I .i64 ((n : Nat) : Int)) = some (B false) ∧ aBin .add (I .i64 ((n : Nat) : Int)) (I .i64 1) = some (I .i64 ((n + 1 : Nat) : Int)) ∧
      aBin .add (I .i64 ((k : Nat) : Int)) (I .i64 1) = some (I .i64 ((k + 1 : Nat) : Int)) ∧ aBin .sub (I .i64 ((n + 1 : Nat) : Int)) (I .i64 ((k : Nat) : Int)) = some (I .i64 ((n + 1 - k : Nat) : Int)) := by
  have h1 : ¬ (((k : Nat) : Int) = ((n : Nat) : Int)) := by omega
  have h2 : IntKind.i64.wrap ((n : Int) + 1) = ((n + 1 : Nat) : Int) := by rw [wrap_in _ (by omega) (by omega)]; omega
  have h3 : IntKind.i64.wrap ((k : Int) + 1) = ((k + 1 : Nat) : Int) := by rw [wrap_in _ (by omega) (by omega)]; omega
  have h4 : IntKind.i64.wrap (((n + 1 : Nat) : Int) - (k : Int)) = ((n + 1 - k : Nat) : Int) := by rw [wrap_in _ (by omega) (by omega)]; omega
  refine ⟨rfl, ?_, ?_, ?_, ?_⟩
  · rw [eql_int, decide_eq_false h1]
  · rw [add_int, h2]
  · rw [add_int, h3]
  · rw [sub_int, h4]

theorem insN_run (d : Nat) (wf : σ.wf) (hi : σ.get i = some (.cells true vs)) (hj : σ.get j = some (.cells true us)) (hkn : k < n) (hn : n ≤ 1000000) (hv : n * 5 ≤ vs.length) (hij : i ≠ j) (hp : p + 5 ≤ us.length) :
    ∃ τ, f74 (runQ Tryz.prog 8 noPrim d) 8 (Z (.sl i 0 n (.known n))) (I .i64 k) (Z (.sl j p 1 (.known 1))) σ = some (Z (.sl σ.size 0 (n + 1) (.grown 5)), τ) ∧ τ.size = σ.size + 1 ∧
      τ.get σ.size = some (.cells true (vs.take (k * 5) ++ (us.drop p).take 5 ++ (vs.drop (k * 5)).take ((n - k) * 5))) ∧ ∀ b, b < σ.size → τ.get b = σ.get b := by
  obtain ⟨f1, f2, f3, f4, f5⟩ := ins_facts hkn hn
  obtain ⟨N, hN⟩ : ∃ N, N = σ.size := ⟨_, rfl⟩
  obtain ⟨a, ha⟩ : ∃ a, a = vs.take (k * 5) := ⟨_, rfl⟩
  obtain ⟨w, hw⟩ : ∃ w, w = (us.drop p).take 5 := ⟨_, rfl⟩
  obtain ⟨b, hb⟩ : ∃ b, b = (vs.drop (k * 5)).take ((n - k) * 5) := ⟨_, rfl⟩
  have hla : a.length = k * 5 := by rw [ha, List.length_take]; omega
  have hlw : w.length = 5 := by rw [hw]; simp; omega
  have hlb : b.length = (n - k) * 5 := by rw [hb]; simp; omega
  obtain ⟨z, hz⟩ : ∃ z, z = zeros (n + 1 - k) zI := ⟨_, rfl⟩
  have hlz : z.length = (n + 1 - k) * 5 := by rw [hz]; exact zeros_len (e := 5) rfl _
  have le0 : aLenSl (Z (.sl i 0 n (.known n))) = some (I .i64 ((n : Nat) : Int)) := rfl
  have le2 : aLenSl (Z (.sl j p 1 (.known 1))) = some (I .i64 1) := rfl
  have cp : aCap (Z (.sl i 0 n (.known n))) = some (I .i64 ((n : Nat) : Int)) := rfl
  have gt : aBin .gtr (I .i64 ((n + 1 : Nat) : Int)) (I .i64 ((n : Nat) : Int)) = some (B true) := by
    rw [gtr_int, decide_eq_true (by omega)]
  have p1 : aPieceSl 5 (Z (.sl i 0 n (.known n))) (some (I .i64 ((k : Nat) : Int))) none none = some (Z (.sl i (k * 5) (n - k) (.known (n - k)))) := by
    have h1 : ¬ n = k := by omega
    simp only [aPieceSl, aBounds_lo (show k ≤ n by omega) (Nat.le_refl n), if_neg h1, Nat.zero_add]
  have p2 : aPieceSl 5 (Z (.sl i 0 n (.known n))) none (some (I .i64 ((k : Nat) : Int))) none = some (Z (.sl i 0 k (.known n))) := by
    simp only [aPieceSl, aBounds_hi (show k ≤ n by omega), Nat.zero_mul, Nat.add_zero, ite_self, Nat.sub_zero]
  obtain ⟨s1, hs1⟩ : ∃ s1, s1 = σ.push (.cells true (a ++ z)) := ⟨_, rfl⟩
  have gr : aGrow 5 40 [.int .i64 0, .int .i64 0, .int .i64 0, .int .i64 0, .int .u32 0] (Z (.sl i 0 k (.known n))) (I .i64 ((n + 1 - k : Nat) : Int)) σ = some (Z (.sl N 0 (n + 1) (.grown 5)), s1) := by
    have h1 : 0 < ((n + 1 - k : Nat) : Int) ∧ k ≤ n ∧ n < k + ((n + 1 - k : Nat) : Int).toNat ∧ (k + ((n + 1 - k : Nat) : Int).toNat) * 40 ≤ 140737488355328 ∧ (5 : Nat) ≠ 0 ∧ 0 + k * 5 ≤ vs.length := by
      rw [Int.toNat_natCast]
      refine ⟨by omega, by omega, by omega, by omega, by decide, by omega⟩
    have h2 : k + ((n + 1 - k : Nat) : Int).toNat = n + 1 := by omega
    simp only [aGrow, hi]
    rw [if_pos h1, h2, Int.toNat_natCast, List.drop_zero, ← ha, hs1, hz, hN]
  have g1 : s1.get N = some (.cells true (a ++ z)) := by rw [hs1, hN]; exact St.get_push_same _ _
  have o1 : ∀ q, q ≠ N → s1.get q = σ.get q := fun q hq => by rw [hs1]; exact St.get_push_ne _ _ (by rw [← hN]; exact hq)
  have p3 : aPieceSl 5 (Z (.sl N 0 (n + 1) (.grown 5))) (some (I .i64 ((k : Nat) : Int))) none none = some (Z (.sl N (k * 5) (n + 1 - k) (.grown 5))) := by
    simp only [aPieceSl, aBounds_lo (show k ≤ n + 1 by omega) (Nat.le_refl (n + 1)), if_pos trivial, if_pos (show k < n + 1 by omega), Nat.zero_add]
  have p4 : aPieceSl 5 (Z (.sl N 0 (n + 1) (.grown 5))) (some (I .i64 ((k + 1 : Nat) : Int))) none none = some (Z (.sl N ((k + 1) * 5) (n - k) (.grown 5))) := by
    have h1 : n + 1 - (k + 1) = n - k := by omega
    simp only [aPieceSl, aBounds_lo (show k + 1 ≤ n + 1 by omega) (Nat.le_refl (n + 1)), if_pos trivial, if_pos (show k + 1 < n + 1 by omega), Nat.zero_add, h1]
  have jN : j ≠ N := by have := wf.lt hj; omega
  have iN : i ≠ N := by have := wf.lt hi; omega
  have hj1 : s1.get j = some (.cells true us) := by rw [o1 j jN]; exact hj
  have src1 : aSrc 5 (Z (.sl j p 1 (.known 1))) s1.get = some (1, w) := by
    simp only [aSrc, if_neg (show ¬ (1 : Nat) = 0 by decide), hj1, Nat.one_mul, if_pos hp, hw]
  have hm1 : Nat.min 1 (n + 1 - k) = 1 := by show min 1 (n + 1 - k) = 1; omega
  obtain ⟨A1, hA1⟩ : ∃ A1, A1 = setRange (a ++ z) (k * 5) w := ⟨_, rfl⟩
  obtain ⟨s2, hs2⟩ : ∃ s2, s2 = s1.set N (.cells true A1) := ⟨_, rfl⟩
  have cy1 : aCopy 5 (Z (.sl N (k * 5) (n + 1 - k) (.grown 5))) (Z (.sl j p 1 (.known 1))) s1 = some (I .i64 ((1 : Nat) : Int), s2) := by
    have h1 : k * 5 + 1 * 5 ≤ (a ++ z).length := by simp; omega
    have h2 : w.take (1 * 5) = w := List.take_of_length_le (by omega)
    simp only [aCopy, src1, g1, hm1]
    rw [if_pos h1, h2, hs2, hA1]
  have g2 : s2.get N = some (.cells true A1) := by rw [hs2]; exact St.get_set_same _ _ _
  have hi2 : s2.get i = some (.cells true vs) := by rw [hs2, St.get_set_ne _ _ iN, o1 i iN]; exact hi
  have hnk : ¬ n - k = 0 := by omega
  have src2 : aSrc 5 (Z (.sl i (k * 5) (n - k) (.known (n - k)))) s2.get = some (n - k, b) := by
    have h1 : k * 5 + (n - k) * 5 ≤ vs.length := by omega
    simp only [aSrc, if_neg hnk, hi2, if_pos h1, hb]
  have hm2 : Nat.min (n - k) (n - k) = n - k := by show min (n - k) (n - k) = n - k; omega
  obtain ⟨A2, hA2⟩ : ∃ A2, A2 = setRange A1 ((k + 1) * 5) b := ⟨_, rfl⟩
  obtain ⟨s3, hs3⟩ : ∃ s3, s3 = s2.set N (.cells true A2) := ⟨_, rfl⟩
  have cy2 : aCopy 5 (Z (.sl N ((k + 1) * 5) (n - k) (.grown 5))) (Z (.sl i (k * 5) (n - k) (.known (n - k)))) s2 = some (I .i64 ((n - k : Nat) : Int), s3) := by
    have h1 : (k + 1) * 5 + (n - k) * 5 ≤ A1.length := by rw [hA1, setRange_length]; simp; omega
    have h2 : b.take ((n - k) * 5) = b := List.take_of_length_le (by omega)
    simp only [aCopy, src2, g2, hm2]
    rw [if_pos h1, h2, hs3, hA2]
  have hfin : A2 = a ++ w ++ b := by
    have := ins_grow a w b z (by omega)
    rw [hla, hlw] at this
    rw [hA2, hA1, Nat.add_mul, Nat.one_mul]
    exact this
  refine ⟨s3, ?_, by rw [hs3, hs2, hs1]; rfl, by rw [← hN, hs3, St.get_set_same, hfin, ha, hw, hb], fun q hq => ?_⟩
  · unfold f74
    rw [← hN]
    clear hi hj hi2 hj1 hv hp wf
    have br1 : ((1 : Nat) : Int) = 1 := rfl
    rw [br1] at cy1
    generalize n + 1 - k = M at *
    generalize ((n + 1 : Nat) : Int) = N1 at *
    generalize ((k + 1 : Nat) : Int) = K1 at *
    generalize ((M : Nat) : Int) = MI at *
    generalize ((n : Nat) : Int) = NI at *
    generalize ((k : Nat) : Int) = KI at *
    simp only [p1, le0, le2, bd_some, f1, br_false, f2, f3, cp, gt, br_true, p2, f5, gr, bd2_some, p3, cy1, f4, p4, cy2]
  · rw [hs3, hs2, St.get_set_ne _ _ (by omega), St.get_set_ne _ _ (by omega), o1 q (by omega)]

theorem insR_run (d : Nat) (hi : σ.get i = some (.cells true vs)) (hj : σ.get j = some (.cells true us)) (hkn : k < n) (hn : n ≤ 1000000) (hc : n + 1 ≤ c) (hv : vs.length = c * 5) (hij : i ≠ j) (hp : p + 5 ≤ us.length) :
    ∃ τ B, f74 (runQ Tryz.prog 8 noPrim d) 8 (Z (.sl i 0 n (.known c))) (I .i64 k) (Z (.sl j p 1 (.known 1))) σ = some (Z (.sl i 0 (n + 1) (.known c)), τ) ∧ τ.size = σ.size ∧
      τ.get i = some (.cells true B) ∧ B.length = vs.length ∧ B.take ((n + 1) * 5) = vs.take (k * 5) ++ (us.drop p).take 5 ++ (vs.drop (k * 5)).take ((n - k) * 5) ∧ ∀ b, b ≠ i → τ.get b = σ.get b := by
  obtain ⟨f1, f2, f3, f4, f5⟩ := ins_facts hkn hn
  obtain ⟨a, ha⟩ : ∃ a, a = vs.take (k * 5) := ⟨_, rfl⟩
  obtain ⟨w, hw⟩ : ∃ w, w = (us.drop p).take 5 := ⟨_, rfl⟩
  obtain ⟨b, hb⟩ : ∃ b, b = (vs.drop (k * 5)).take ((n - k) * 5) := ⟨_, rfl⟩
  obtain ⟨r, hr⟩ : ∃ r, r = vs.drop (n * 5) := ⟨_, rfl⟩
  have hla : a.length = k * 5 := by rw [ha, List.length_take]; omega
  have hlw : w.length = 5 := by rw [hw]; simp; omega
  have hlb : b.length = (n - k) * 5 := by rw [hb]; simp; omega
  have hlr : 5 ≤ r.length := by rw [hr]; simp; omega
  have hvs : vs = a ++ b ++ r := by
    have h1 : vs.drop (k * 5) = b ++ r := by
      rw [hb, hr]
      have : n * 5 = k * 5 + (n - k) * 5 := by omega
      rw [this, ← List.drop_drop]
      exact (List.take_append_drop _ _).symm
    rw [List.append_assoc, ← h1, ha]
    exact (List.take_append_drop _ _).symm
  have le0 : aLenSl (Z (.sl i 0 n (.known c))) = some (I .i64 ((n : Nat) : Int)) := rfl
  have le2 : aLenSl (Z (.sl j p 1 (.known 1))) = some (I .i64 1) := rfl
  have cp : aCap (Z (.sl i 0 n (.known c))) = some (I .i64 ((c : Nat) : Int)) := rfl
  have gt : aBin .gtr (I .i64 ((n + 1 : Nat) : Int)) (I .i64 ((c : Nat) : Int)) = some (B false) := by
    rw [gtr_int, decide_eq_false (by omega)]
  have p0 : aPieceSl 5 (Z (.sl i 0 n (.known c))) (some (I .i64 ((k : Nat) : Int))) none none = some (Z (.sl i (k * 5) (n - k) (.known (c - k)))) := by
    have h1 : ¬ c = k := by omega
    simp only [aPieceSl, aBounds_lo (show k ≤ n by omega) (show n ≤ c by omega), if_neg h1, Nat.zero_add]
  have p1 : aPieceSl 5 (Z (.sl i 0 n (.known c))) none (some (I .i64 ((n + 1 : Nat) : Int))) none = some (Z (.sl i 0 (n + 1) (.known c))) := by
    simp only [aPieceSl, aBounds_hi hc, Nat.zero_mul, Nat.add_zero, ite_self, Nat.sub_zero]
  have p2 : aPieceSl 5 (Z (.sl i 0 (n + 1) (.known c))) (some (I .i64 ((k + 1 : Nat) : Int))) none none = some (Z (.sl i ((k + 1) * 5) (n - k) (.known (c - (k + 1))))) := by
    have h1 : ¬ c = k + 1 := by omega
    have h2 : n + 1 - (k + 1) = n - k := by omega
    simp only [aPieceSl, aBounds_lo (show k + 1 ≤ n + 1 by omega) hc, if_neg h1, Nat.zero_add, h2]
  have p3 : aPieceSl 5 (Z (.sl i 0 (n + 1) (.known c))) (some (I .i64 ((k : Nat) : Int))) none none = some (Z (.sl i (k * 5) (n + 1 - k) (.known (c - k)))) := by
    have h1 : ¬ c = k := by omega
    simp only [aPieceSl, aBounds_lo (show k ≤ n + 1 by omega) hc, if_neg h1, Nat.zero_add]
  have ov : xOver Tryz.prog 89 [Z (.sl j p 1 (.known 1)), Z (.sl i ((k + 1) * 5) (n - k) (.known (c - (k + 1))))] σ = some (B false, σ) := by
    have h1 : Nat.beq j i = false := by
      cases h : Nat.beq j i with
      | false => rfl
      | true => exact absurd (Nat.eq_of_beq_eq_true h).symm hij
    simp only [xOver, aOver, hi, hj, h1, over_ok]
  have no : aUn .not (B false) = some (B true) := rfl
  have src1 : aSrc 5 (Z (.sl i (k * 5) (n + 1 - k) (.known (c - k)))) σ.get = some (n + 1 - k, (vs.drop (k * 5)).take ((n + 1 - k) * 5)) := by
    have h1 : k * 5 + (n + 1 - k) * 5 ≤ vs.length := by omega
    simp only [aSrc, if_neg (show ¬ n + 1 - k = 0 by omega), hi, if_pos h1]
  have hm1 : Nat.min (n + 1 - k) (n - k) = n - k := by show min (n + 1 - k) (n - k) = n - k; omega
  have hbt : ((vs.drop (k * 5)).take ((n + 1 - k) * 5)).take ((n - k) * 5) = b := by
    rw [List.take_take, hb]
    congr 1; omega
  obtain ⟨A1, hA1⟩ : ∃ A1, A1 = setRange vs ((k + 1) * 5) b := ⟨_, rfl⟩
  obtain ⟨s1, hs1⟩ : ∃ s1, s1 = σ.set i (.cells true A1) := ⟨_, rfl⟩
  have cy1 : aCopy 5 (Z (.sl i ((k + 1) * 5) (n - k) (.known (c - (k + 1))))) (Z (.sl i (k * 5) (n + 1 - k) (.known (c - k)))) σ = some (I .i64 ((n - k : Nat) : Int), s1) := by
    have h1 : (k + 1) * 5 + (n - k) * 5 ≤ vs.length := by omega
    simp only [aCopy, src1, hi, hm1]
    rw [if_pos h1, hbt, hs1, hA1]
  have g1 : s1.get i = some (.cells true A1) := by rw [hs1]; exact St.get_set_same _ _ _
  have hj1 : s1.get j = some (.cells true us) := by rw [hs1, St.get_set_ne _ _ (fun h => hij h.symm)]; exact hj
  have src2 : aSrc 5 (Z (.sl j p 1 (.known 1))) s1.get = some (1, w) := by
    simp only [aSrc, if_neg (show ¬ (1 : Nat) = 0 by decide), hj1, Nat.one_mul, if_pos hp, hw]
  have hm2 : Nat.min 1 (n + 1 - k) = 1 := by show min 1 (n + 1 - k) = 1; omega
  obtain ⟨A2, hA2⟩ : ∃ A2, A2 = setRange A1 (k * 5) w := ⟨_, rfl⟩
  obtain ⟨s2, hs2⟩ : ∃ s2, s2 = s1.set i (.cells true A2) := ⟨_, rfl⟩
  have hl1 : A1.length = vs.length := by rw [hA1, setRange_length]
  have cy2 : aCopy 5 (Z (.sl i (k * 5) (n + 1 - k) (.known (c - k)))) (Z (.sl j p 1 (.known 1))) s1 = some (I .i64 ((1 : Nat) : Int), s2) := by
    have h1 : k * 5 + 1 * 5 ≤ A1.length := by omega
    have h2 : w.take (1 * 5) = w := List.take_of_length_le (by omega)
    simp only [aCopy, src2, g1, hm2]
    rw [if_pos h1, h2, hs2, hA2]
  have hfin : A2.take ((n + 1) * 5) = a ++ w ++ b := by
    have := ins_room a w b r (by omega)
    rw [← hvs, hla, hlw, hlb] at this
    have e1 : k * 5 + 5 = (k + 1) * 5 := by omega
    have e2 : (k + 1) * 5 + (n - k) * 5 = (n + 1) * 5 := by omega
    rw [e1, e2] at this
    rw [hA2, hA1]
    exact this
  refine ⟨s2, A2, ?_, by rw [hs2, hs1]; simp, by rw [hs2]; exact St.get_set_same _ _ _, by rw [hA2, setRange_length, hl1], by rw [hfin, ha, hw, hb], fun q hq => by rw [hs2, hs1, St.get_set_ne _ _ hq, St.get_set_ne _ _ hq]⟩
  unfold f74
  clear hi hj hj1 hv hp
  have br1 : ((1 : Nat) : Int) = 1 := rfl
  rw [br1] at cy2
  generalize ((n - k : Nat) : Int) = NK at *
  generalize ((n + 1 : Nat) : Int) = N1 at *
  generalize ((k + 1 : Nat) : Int) = K1 at *
  generalize ((c : Nat) : Int) = CI at *
  generalize ((n : Nat) : Int) = NI at *
  generalize ((k : Nat) : Int) = KI at *
  simp only [p0, le0, le2, bd_some, f1, br_false, f2, f3, cp, gt, p1, f4, p2, ov, bd2_some, no, br_true, p3, cy1, cy2]
end

theorem ins_sound : CallSound Tryz.prog (insP 74 5) := by
  have body : ∀ (a0 a1 a2 : T) (σ : St), runQ Tryz.prog 8 noPrim 1 74 [a0, a1, a2] σ = f74 (runQ Tryz.prog 8 noPrim 0) 8 a0 a1 a2 σ := fun a0 a1 a2 σ =>
    (runQ_body rfl Tryz.func74 (by kernel_rfl)).trans (f74_eq _ _ _ _ _ _)
  refine Go.Abs.F.ins_sound (plain_sound Tryz.prog 8 1) ?_ ?_
  · intro σ i n k j p vs us wf h1 h2 h3 h4 h5 h6 h7
    obtain ⟨τ, e1, e2⟩ := insN_run 0 wf h1 h2 h3 h4 h5 h6 h7
    exact ⟨τ, (body _ _ _ _).trans e1, e2⟩
  · intro σ i n k j p c vs us h1 h2 h3 h4 h5 h6 h7 h8
    obtain ⟨τ, B, e1, e2⟩ := insR_run 0 h1 h2 h3 h4 h5 h6 h7 h8
    exact ⟨τ, B, (body _ _ _ _).trans e1, e2⟩
end Go.Proofs.YtlhbidbdmdcdeaaGreatDoor


/-
  Lists of segments in a store: search, insertion, removal. No conditions but those named in each line.
-/
namespace Go.Proofs.YtlhbidbdmdcdeaaGreatDoor
open Go Go.Abs Go.Abs.F
set_option linter.unusedVariables false

structure Inf where
  i : Int
  t : Int
  f : Int
  o : Int
  u : Int
  deriving DecidableEq
def cI (x : Inf) : List S := [.int .i64 x.i, .int .i64 x.t, .int .i64 x.f, .int .i64 x.o, .int .u32 x.u]
abbrev AI (x : Inf) : T := .v (.agg (cI x))
theorem cI_len (x : Inf) : (cI x).length = 5 := rfl

def InS (s : St) (x : S) (l : List Inf) : Prop := (x = .nils ∧ l = []) ∨ ∃ c vs, x = .sl c 0 l.length (.grown 5) ∧ s.get c = some (.cells true vs) ∧ vs.take (l.length * 5) = cells cI l

section
variable {s t : St} {x : S} {l : List Inf}

theorem InS.rd (h : InS s x l) : Rd 5 s x l.length (cells cI l) := by
  rcases h with ⟨rfl, rfl⟩ | ⟨c, vs, rfl, hb, ht⟩
  · exact Rd.nil 5 s
  · have hl := cells_len (e := 5) cI_len l
    refine ⟨hl, .inr ⟨c, 0, _, true, vs, rfl, hb, ?_, by rw [List.drop_zero]; exact ht⟩, rfl⟩
    have := congrArg List.length ht
    rw [List.length_take, hl] at this
    omega

theorem InS.keep (h : InS s x l) (hk : ∀ c, own x = some c → t.get c = s.get c) : InS t x l := by
  rcases h with ⟨rfl, rfl⟩ | ⟨c, vs, rfl, hb, ht⟩
  · exact .inl ⟨rfl, rfl⟩
  · exact .inr ⟨c, vs, rfl, by rw [hk c rfl]; exact hb, ht⟩

theorem InS.lt (h : InS s x l) (wf : s.wf) {c : Nat} (hc : own x = some c) : c < s.size := by
  rcases h with ⟨rfl, rfl⟩ | ⟨d, vs, rfl, hb, ht⟩
  · cases hc
  · cases hc; exact wf.lt hb

theorem InS.atI (h : InS s x l) {j : Nat} {n : Int} {a : Inf} (hn : n = j) (ha : l[j]? = some a) : ∃ p, aIndexSl 5 (Z x) (I .i64 n) = some p ∧ aLoadN 5 p s.get = some (AI a) := by
  obtain ⟨c, p, h1, _, h3⟩ := Rd.at h.rd hn (List.getElem?_eq_some_iff.1 ha).1
  rw [cells_row cI_len ha] at h3
  exact ⟨_, h1, h3⟩

def cmpI (id : Int) (a : Inf) : Int := IntKind.i64.wrap (a.i - id)

theorem cmpI_in {id : Int} {a : Inf} (h0 : 0 ≤ id) (h1 : id ≤ 1073741824) (h2 : 0 ≤ a.i) (h3 : a.i ≤ 1073741824) : cmpI id a = a.i - id := wrap_in _ (by omega) (by omega)

theorem cmp_run (d : Nat) (wf : s.wf) (a : Inf) (id : Int) : ∃ t, R (d + 1) 88 [AI a, I .i64 id] s = some (I .i64 (cmpI id a), t) ∧ Gr s t := by
  rw [f88_run]
  unfold f88
  obtain ⟨s1, hs1⟩ : ∃ s1, s1 = s.push (.cells true (cI a)) := ⟨_, rfl⟩
  have nw : aNew s (nBox (AI a)) = some (Z (.ptr s.size 0), s1) := by rw [hs1]; rfl
  have fa : aFieldAddr 0 (Z (.ptr s.size 0)) = some (Z (.ptr s.size 0)) := rfl
  have ld : aLoad1 (Z (.ptr s.size 0)) s1.get = some (I .i64 a.i) := aLoad1_of (by rw [hs1]; exact St.get_push_same _ _) rfl
  refine ⟨s1, ?_, by rw [hs1]; exact Gr.push wf _⟩
  simp only [nw, bd2_some, fa, bd_some, ld, sub_int]
  rfl

theorem dyn_clo0 {callf : CallF} {f : Nat} {args : List T} {σ : St} (h : callable Tryz.prog f = true) : dyn Tryz.prog callf (Z (.clo f [])) args σ = callf f args σ := by
  simp only [dyn, h, if_true, List.map_nil, List.append_nil]

theorem at_callable : callable Tryz.prog 88 = true := by kernel_rfl

structure Found (l : List Inf) (id : Int) (k : Nat) : Prop where
  le : k ≤ l.length
  low : (∀ (a b : Nat) (x y : Inf), a < b → l[a]? = some x → l[b]? = some y → cmpI id y < 0 → cmpI id x < 0) → ∀ (a : Nat) (x : Inf), a < k → l[a]? = some x → cmpI id x < 0
  high : (∀ (a b : Nat) (x y : Inf), a < b → l[a]? = some x → l[b]? = some y → cmpI id y < 0 → cmpI id x < 0) → ∀ (a : Nat) (x : Inf), k ≤ a → l[a]? = some x → ¬ cmpI id x < 0

def hitI (l : List Inf) (id : Int) (k : Nat) : Bool := match l[k]? with
  | some a => decide (cmpI id a = 0)
  | none => false

set_option maxHeartbeats 1000000 in
theorem bsf_run (d : Nat) (wf : s.wf) (h : InS s x l) (hl : l.length ≤ 8000) (id : Int) : ∃ k t, R (d + 2) 87 [Z x, I .i64 id, Z (.clo 88 [])] s = some (.tup [.s (.int .i64 ((k : Nat) : Int)), .s (.bool (hitI l id k))], t) ∧ Gr s t ∧ Found l id k := by
  rw [f87_run]
  unfold f87
  have ll := h.rd.lens
  have dy : ∀ (u : St) (a : Inf), u.wf → ∃ t, dyn Tryz.prog (R (d + 1)) (Z (.clo 88 [])) [AI a, I .i64 id] u = some (I .i64 (cmpI id a), t) ∧ Gr u t := fun u a hu => by
    obtain ⟨t, e, g⟩ := cmp_run d hu a id
    exact ⟨t, by rw [dyn_clo0 at_callable]; exact e, g⟩
  obtain ⟨Mono, hM⟩ : ∃ Mono, Mono = ∀ (a b : Nat) (x y : Inf), a < b → l[a]? = some x → l[b]? = some y → cmpI id y < 0 → cmpI id x < 0 := ⟨_, rfl⟩
  obtain ⟨j, τ, lp, hj⟩ := loops_inv (f := f87_l1 (R (d + 1)) 8192)
    (fun q v u => ∃ lo hi : Nat, hi - lo ≤ q ∧ lo ≤ hi ∧ hi ≤ l.length ∧ v = [Z x, I .i64 id, Z (.clo 88 []), I .i64 ((l.length : Nat) : Int), I .i64 ((lo : Nat) : Int), I .i64 ((hi : Nat) : Int)] ∧ Gr s u ∧
      (Mono → (∀ (a : Nat) (y : Inf), a < lo → l[a]? = some y → cmpI id y < 0) ∧ ∀ (a : Nat) (y : Inf), hi ≤ a → l[a]? = some y → ¬ cmpI id y < 0))
    (fun j u => ∃ k : Nat, j = .exit 0 [Z x, I .i64 id, Z (.clo 88 []), I .i64 ((l.length : Nat) : Int), I .i64 ((k : Nat) : Int)] ∧ k ≤ l.length ∧ Gr s u ∧
      (Mono → (∀ (a : Nat) (y : Inf), a < k → l[a]? = some y → cmpI id y < 0) ∧ ∀ (a : Nat) (y : Inf), k ≤ a → l[a]? = some y → ¬ cmpI id y < 0)) (by
    rintro q v u ⟨lo, hi, hq, hlh, hhl, rfl, g, hinv⟩
    by_cases hlt : lo < hi
    · left
      obtain ⟨m, hm⟩ : ∃ m, m = (lo + hi) / 2 := ⟨_, rfl⟩
      have hm1 : lo ≤ m := by omega
      have hm2 : m < hi := by omega
      have hget : l[m]? = some l[m] := List.getElem?_eq_getElem (by omega)
      obtain ⟨y, hy⟩ : ∃ y, y = l[m] := ⟨_, rfl⟩
      rw [← hy] at hget
      have hu := h.keep (t := u) fun c hc => g.2.2 c (h.lt wf hc)
      obtain ⟨p, ix, ld⟩ := hu.atI (n := ((m : Nat) : Int)) rfl hget
      obtain ⟨t1, dy1, g1⟩ := dy u y g.wf
      have c0 : ((lo : Nat) : Int) < ((hi : Nat) : Int) := by omega
      have a1 : IntKind.i64.wrap ((lo : Int) + (hi : Int)) = ((lo + hi : Nat) : Int) := by rw [wrap_in _ (by omega) (by omega)]; omega
      have a2 : aConv .u64 (I .i64 ((lo + hi : Nat) : Int)) = some (I .u64 ((lo + hi : Nat) : Int)) := by
        show some (I .u64 (IntKind.u64.wrap ((lo + hi : Nat) : Int))) = _
        rw [wrap64 _ (by omega)]
      have a3 : aBin .shr (I .u64 ((lo + hi : Nat) : Int)) (I .u64 1) = some (I .u64 ((m : Nat) : Int)) := by
        have := shr_nat .u64 (lo + hi) 1 (by decide)
        rw [hm]
        exact this
      have a4 : aConv .i64 (I .u64 ((m : Nat) : Int)) = some (I .i64 ((m : Nat) : Int)) := by
        show some (I .i64 (IntKind.i64.wrap ((m : Nat) : Int))) = _
        rw [wrapi _ (by omega)]
      have w1 : IntKind.i64.wrap ((m : Int) + 1) = ((m + 1 : Nat) : Int) := by rw [wrap_in _ (by omega) (by omega)]; omega
      by_cases hc : cmpI id y < 0
      · refine ⟨[Z x, I .i64 id, Z (.clo 88 []), I .i64 ((l.length : Nat) : Int), I .i64 ((m + 1 : Nat) : Int), I .i64 ((hi : Nat) : Int)], t1, q - 1, ?_, by omega, m + 1, hi, by omega, by omega, hhl, rfl, g.trans g1, fun hmo => ⟨fun a z ha hz => ?_, (hinv hmo).2⟩⟩
        · unfold f87_l1
          generalize R (d + 1) = r at *
          generalize ((lo + hi : Nat) : Int) = LH at *
          generalize ((m + 1 : Nat) : Int) = M1 at *
          generalize ((m : Nat) : Int) = M at *
          generalize ((hi : Nat) : Int) = HI at *
          generalize ((lo : Nat) : Int) = LO at *
          generalize ((l.length : Nat) : Int) = LL at *
          simp [c0, a1, a2, a3, a4, ix, ld, dy1, hc, w1]
        · by_cases e : a = m
          · subst e; rw [hget] at hz; cases hz; exact hc
          · rw [hM] at hmo; exact hmo a m z y (by omega) hz hget hc
      · refine ⟨[Z x, I .i64 id, Z (.clo 88 []), I .i64 ((l.length : Nat) : Int), I .i64 ((lo : Nat) : Int), I .i64 ((m : Nat) : Int)], t1, q - 1, ?_, by omega, lo, m, by omega, by omega, by omega, rfl, g.trans g1, fun hmo => ⟨(hinv hmo).1, fun a z ha hz hz0 => ?_⟩⟩
        · unfold f87_l1
          generalize R (d + 1) = r at *
          generalize ((lo + hi : Nat) : Int) = LH at *
          generalize ((m + 1 : Nat) : Int) = M1 at *
          generalize ((m : Nat) : Int) = M at *
          generalize ((hi : Nat) : Int) = HI at *
          generalize ((lo : Nat) : Int) = LO at *
          generalize ((l.length : Nat) : Int) = LL at *
          simp [c0, a1, a2, a3, a4, ix, ld, dy1, hc]
        · by_cases e : a = m
          · subst e; rw [hget] at hz; cases hz; exact hc hz0
          · rw [hM] at hmo; exact hc (hmo m a y z (by omega) hget hz hz0)
    · right
      have hll : lo = hi := by omega
      subst hll
      refine ⟨_, u, ?_, (fun v hv => by cases hv), lo, rfl, hhl, g, hinv⟩
      have c0 : ¬ ((lo : Nat) : Int) < ((lo : Nat) : Int) := by omega
      unfold f87_l1
      simp [c0]) 8192 l.length [Z x, I .i64 id, Z (.clo 88 []), I .i64 ((l.length : Nat) : Int), I .i64 0, I .i64 ((l.length : Nat) : Int)] s
    ⟨0, l.length, by omega, by omega, by omega, rfl, Gr.refl wf, fun _ => ⟨fun a y ha => by omega, fun a y ha hy => by have := (List.getElem?_eq_some_iff.1 hy).1; omega⟩⟩ (by omega)
  obtain ⟨k, rfl, hk, g, hinv⟩ := hj
  rw [hM] at hinv
  have hF : Found l id k := ⟨hk, fun m => (hinv m).1, fun m => (hinv m).2⟩
  by_cases hkl : k < l.length
  · have hget : l[k]? = some l[k] := List.getElem?_eq_getElem hkl
    obtain ⟨y, hy⟩ : ∃ y, y = l[k] := ⟨_, rfl⟩
    rw [← hy] at hget
    have hu := h.keep (t := τ) fun c hc => g.2.2 c (h.lt wf hc)
    obtain ⟨p, ix, ld⟩ := hu.atI (n := ((k : Nat) : Int)) rfl hget
    obtain ⟨t1, dy1, g1⟩ := dy τ y g.wf
    have c0 : ((k : Nat) : Int) < ((l.length : Nat) : Int) := by omega
    have hh : hitI l id k = decide (cmpI id y = 0) := by simp only [hitI, hget]
    refine ⟨k, t1, ?_, g.trans g1, hF⟩
    rw [hh]
    clear hinv hF dy
    generalize R (d + 1) = r at *
    generalize ((k : Nat) : Int) = K at *
    generalize ((l.length : Nat) : Int) = LL at *
    generalize cmpI id y = CY at *
    simp [ll, lp, c0, ix, ld, dy1, retT, allV]
  · have hke : k = l.length := by omega
    have hh : hitI l id k = false := by simp only [hitI, List.getElem?_eq_none (by omega : l.length ≤ k)]
    have c0 : ¬ ((k : Nat) : Int) < ((l.length : Nat) : Int) := by omega
    refine ⟨k, τ, ?_, g, hF⟩
    rw [hh]
    clear hinv hF dy hke
    generalize R (d + 1) = r at *
    generalize ((k : Nat) : Int) = K at *
    generalize ((l.length : Nat) : Int) = LL at *
    simp [ll, lp, c0, retT, allV]

theorem prim_ins {σ : St} {ts : List T} : prim 74 ts σ = insP 74 5 74 ts σ := by
  have e1 : toldP 17 true 74 ts σ = none := by
    have : Nat.beq 74 17 = false := by decide
    simp only [toldP, this, Bool.false_and]
  have e2 : toldP 29 true 74 ts σ = none := by
    have : Nat.beq 74 29 = false := by decide
    simp only [toldP, this, Bool.false_and]
  have e3 : bigP Tryz.prog [18] 74 ts σ = none := by
    have : [18].contains 74 = false := by decide
    simp only [bigP, this]
  have e4 : delP 75 5 [.int .i64 0, .int .i64 0, .int .i64 0, .int .i64 0, .int .u32 0] 74 ts σ = none := by
    have : Nat.beq 74 75 = false := by decide
    simp only [delP, this]
  have e5 : prim1 74 ts σ = none := by
    have h1 : ixs.contains 74 = false := by decide
    have h2 : Nat.beq 74 103 = false := by decide
    have h3 : Nat.beq 74 79 = false := by decide
    have h4 : [122].contains 74 = false := by decide
    have h5 : prim0 74 ts σ = none := by
      simp only [prim0, orP, ixP, h1, h2, joinP, h3]
    exact (orP_right h5).trans (by simp only [pureP, h4, Bool.false_and])
  refine (orP_right e1).trans ((orP_right e2).trans ?_)
  cases h : insP 74 5 74 ts σ with
  | some r => exact orP_left ((orP_right e3).trans ((orP_right e4).trans h))
  | none => exact (orP_right ((orP_right e3).trans ((orP_right e4).trans h))).trans e5

theorem prim_del {σ : St} {ts : List T} {r : T × St} (h : delP 75 5 [.int .i64 0, .int .i64 0, .int .i64 0, .int .i64 0, .int .u32 0] 75 ts σ = some r) : prim 75 ts σ = some r := by
  have e1 : toldP 17 true 75 ts σ = none := by
    have : Nat.beq 75 17 = false := by decide
    simp only [toldP, this, Bool.false_and]
  have e2 : toldP 29 true 75 ts σ = none := by
    have : Nat.beq 75 29 = false := by decide
    simp only [toldP, this, Bool.false_and]
  have e3 : bigP Tryz.prog [18] 75 ts σ = none := by
    have : [18].contains 75 = false := by decide
    simp only [bigP, this]
  exact (orP_right e1).trans ((orP_right e2).trans (orP_left ((orP_right e3).trans (orP_left h))))

theorem insP_at {f0 e i o n q j p m c : Nat} {k : Int} {σ : St} {vs us : List S} (hi : σ.get i = some (.cells true vs)) (hj : σ.get j = some (.cells true us))
    (hd : decide (q = e ∧ o = 0 ∧ 0 ≤ k ∧ k < n ∧ m = 1 ∧ c = 1 ∧ n ≤ 1000000 ∧ n * e ≤ vs.length ∧ i ≠ j ∧ p + e ≤ us.length ∧ e ≠ 0) = true) :
    insP f0 e f0 [Z (.sl i o n (.grown q)), I .i64 k, Z (.sl j p m (.known c))] σ = some (Z (.sl σ.size 0 (n + 1) (.grown e)), (σ.set i .dead).push (.cells true (vs.take (k.toNat * e) ++ (us.drop p).take e ++ (vs.drop (k.toNat * e)).take ((n - k.toNat) * e)))) := by
  have hn : Nat.beq f0 f0 = true := Nat.beq_refl f0
  delta insP
  dsimp only
  rw [hn]
  dsimp only
  rw [hi, hj]
  dsimp only
  rw [hd]

theorem insP_not {f0 e i o n q j p m c : Nat} {k : Int} {σ : St} {vs us : List S} (hi : σ.get i = some (.cells true vs)) (hj : σ.get j = some (.cells true us))
    (hd : decide (q = e ∧ o = 0 ∧ 0 ≤ k ∧ k < n ∧ m = 1 ∧ c = 1 ∧ n ≤ 1000000 ∧ n * e ≤ vs.length ∧ i ≠ j ∧ p + e ≤ us.length ∧ e ≠ 0) = false) :
    insP f0 e f0 [Z (.sl i o n (.grown q)), I .i64 k, Z (.sl j p m (.known c))] σ = none := by
  have hn : Nat.beq f0 f0 = true := Nat.beq_refl f0
  delta insP
  dsimp only
  rw [hn]
  dsimp only
  rw [hi, hj]
  dsimp only
  rw [hd]

theorem delP_at {f0 e i o n q : Nat} {a b : Int} {z : List S} {σ : St} {vs : List S} (hi : σ.get i = some (.cells true vs)) (hd : decide (q = e ∧ 0 ≤ a ∧ b = a + 1 ∧ b ≤ n ∧ n ≤ 1000000 ∧ o + n * e ≤ vs.length) = true) :
    delP f0 e z f0 [Z (.sl i o n (.grown q)), I .i64 a, I .i64 b] σ = some (Z (.sl i o (n - 1) (.grown e)), (σ.set i (.cells true (setRange vs (o + a.toNat * e) ((vs.drop (o + (a.toNat + 1) * e)).take ((n - 1 - a.toNat) * e))))).set i (.cells true (setRange (setRange vs (o + a.toNat * e) ((vs.drop (o + (a.toNat + 1) * e)).take ((n - 1 - a.toNat) * e))) (o + (n - 1) * e) z))) := by
  have hn : Nat.beq f0 f0 = true := Nat.beq_refl f0
  delta delP
  dsimp only
  rw [hn]
  dsimp only
  rw [hi]
  dsimp only
  rw [hd]

theorem insBody (d : Nat) {a0 a1 a2 : T} {s : St} (hp : prim 74 [a0, a1, a2] s = none) : R (d + 1) 74 [a0, a1, a2] s = f74 (R d) 8192 a0 a1 a2 s :=
  (runQ_body hp Tryz.func74 (by kernel_rfl)).trans (f74_eq _ _ _ _ _ _)

structure NewI (s t : St) (x y : S) (l : List Inf) : Prop where
  wf : t.wf
  le : s.size ≤ t.size
  ins : InS t y l
  old : ∀ b, b < s.size → own x ≠ some b → t.get b = s.get b
  new : ∀ c, own y = some c → own x = some c ∨ s.size ≤ c

theorem ins_run (d : Nat) (wf : s.wf) (h : InS s x l) (hl : l.length ≤ 8000) {k j : Nat} (hk : k ≤ l.length) {a : Inf} (hj : s.get j = some (.cells true (cI a))) (hjx : ∀ c, own x = some c → c ≠ j) :
    ∃ y t, R (d + 1) 74 [Z x, I .i64 ((k : Nat) : Int), Z (.sl j 0 1 (.known 1))] s = some (Z y, t) ∧ NewI s t x y (l.take k ++ a :: l.drop k) := by
  have hcl := cells_len (e := 5) cI_len l
  have hjs := wf.lt hj
  have src : aSrc 5 (Z (.sl j 0 1 (.known 1))) s.get = some (1, cI a) := by
    simp only [aSrc, if_neg (show ¬ (1 : Nat) = 0 by decide), hj]
    rw [if_pos (show 0 + 1 * 5 ≤ (cI a).length by simp [cI])]
    rfl
  have le2 : aLenSl (Z (.sl j 0 1 (.known 1))) = some (I .i64 1) := rfl
  have f1 : aBin .eql (I .i64 1) (I .i64 0) = some (B false) := rfl
  rcases h with ⟨rfl, rfl⟩ | ⟨c, vs, rfl, hb, ht⟩
  · -- a nil list
    have hk0 : k = 0 := by simpa using hk
    subst hk0
    have hp : prim 74 [Z .nils, I .i64 ((0 : Nat) : Int), Z (.sl j 0 1 (.known 1))] s = none := by
      rw [prim_ins]; rfl
    rw [insBody d hp]
    unfold f74
    have p1 : aPieceSl 5 (Z .nils) (some (I .i64 ((0 : Nat) : Int))) none none = some (Z .nils) := rfl
    have ap : aAppend 5 40 (Z .nils) (Z (.sl j 0 1 (.known 1))) s = some (Z (.sl s.size 0 1 (.grown 5)), s.push (.cells true (cI a))) := by
      simp only [aAppend, src]
      rfl
    have e0 : aLenSl (Z .nils) = some (I .i64 ((0 : Nat) : Int)) := rfl
    have f2 : aBin .eql (I .i64 ((0 : Nat) : Int)) (I .i64 ((0 : Nat) : Int)) = some (B true) := rfl
    refine ⟨.sl s.size 0 1 (.grown 5), s.push (.cells true (cI a)), ?_, St.wf_push wf _, by simp, .inr ⟨s.size, cI a, rfl, St.get_push_same _ _, by simp [cells, cI]⟩, fun b hb _ => St.get_push_ne _ _ (by omega), fun c hc => by cases hc; exact .inr (Nat.le_refl _)⟩
    simp only [p1, bd_some, le2, f1, br_false, e0, f2, br_true, ap, bd2_some]
  · have hcj : c ≠ j := hjx c rfl
    have hvl : l.length * 5 ≤ vs.length := by
      have := congrArg List.length ht
      rw [List.length_take, hcl] at this
      omega
    have hcs := wf.lt hb
    by_cases hkl : k < l.length
    · -- ahead of another
      have hd : decide ((5 : Nat) = 5 ∧ (0 : Nat) = 0 ∧ (0 : Int) ≤ ((k : Nat) : Int) ∧ ((k : Nat) : Int) < ((l.length : Nat) : Int) ∧ (1 : Nat) = 1 ∧ (1 : Nat) = 1 ∧ l.length ≤ 1000000 ∧ l.length * 5 ≤ vs.length ∧ c ≠ j ∧ 0 + 5 ≤ (cI a).length ∧ (5 : Nat) ≠ 0) = true :=
        decide_eq_true ⟨rfl, rfl, by omega, by omega, rfl, rfl, by omega, hvl, hcj, by simp [cI], by decide⟩
      have hi : insP 74 5 74 [Z (.sl c 0 l.length (.grown 5)), I .i64 ((k : Nat) : Int), Z (.sl j 0 1 (.known 1))] s =
          some (Z (.sl s.size 0 (l.length + 1) (.grown 5)), (s.set c .dead).push (.cells true (vs.take (k * 5) ++ ((cI a).drop 0).take 5 ++ (vs.drop (k * 5)).take ((l.length - k) * 5)))) := by
        rw [insP_at hb hj hd, Int.toNat_natCast]
      have hr := runQ_prim (P := Tryz.prog) (N := 8192) (d := d) (prim_ins.trans hi)
      refine ⟨_, _, hr, St.wf_push (St.wf_set wf hcs _) _, by simp, .inr ⟨s.size, vs.take (k * 5) ++ ((cI a).drop 0).take 5 ++ (vs.drop (k * 5)).take ((l.length - k) * 5), ?_, ?_, ?_⟩, fun b hb' hne => ?_, fun d hd => by cases hd; exact .inr (Nat.le_refl _)⟩
      · have : (l.take k ++ a :: l.drop k).length = l.length + 1 := by simp; omega
        rw [this]
      · exact St.get_push_same (s.set c .dead) _
      · have e1 : (cI a).drop 0 = cI a := rfl
        have e2 : (cI a).take 5 = cI a := rfl
        have e3 : vs.take (k * 5) = cells cI (l.take k) := by
          rw [← cells_take (e := 5) cI_len k l, ← ht, List.take_take]
          congr 1; omega
        have e4 : (vs.drop (k * 5)).take ((l.length - k) * 5) = cells cI (l.drop k) := by
          rw [← cells_drop (e := 5) cI_len k l, ← ht, List.drop_take]
          congr 1; omega
        have e5 : cells cI (l.take k ++ a :: l.drop k) = cells cI (l.take k) ++ cI a ++ cells cI (l.drop k) := by
          simp [cells]
        rw [e1, e2, e3, e4, ← e5, List.take_of_length_le]
        rw [cells_len (e := 5) cI_len]
        omega
      · rw [St.get_push_ne (s.set c .dead) _ (by simp; omega), St.get_set_ne _ _ (fun e => hne (by rw [e]; rfl))]
    · -- at the end
      have hke : k = l.length := by omega
      subst hke
      have hd : decide ((5 : Nat) = 5 ∧ (0 : Nat) = 0 ∧ (0 : Int) ≤ ((l.length : Nat) : Int) ∧ ((l.length : Nat) : Int) < ((l.length : Nat) : Int) ∧ (1 : Nat) = 1 ∧ (1 : Nat) = 1 ∧ l.length ≤ 1000000 ∧ l.length * 5 ≤ vs.length ∧ c ≠ j ∧ 0 + 5 ≤ (cI a).length ∧ (5 : Nat) ≠ 0) = false :=
        decide_eq_false fun h => by omega
      have hp : prim 74 [Z (.sl c 0 l.length (.grown 5)), I .i64 ((l.length : Nat) : Int), Z (.sl j 0 1 (.known 1))] s = none := by
        rw [prim_ins, insP_not hb hj hd]
      rw [insBody d hp]
      unfold f74
      have p1 : aPieceSl 5 (Z (.sl c 0 l.length (.grown 5))) (some (I .i64 ((l.length : Nat) : Int))) none none = some (Z (.emp c 5)) := by
        simp only [aPieceSl, aBounds_lo (Nat.le_refl l.length) (Nat.le_refl l.length), if_pos trivial, if_neg (Nat.lt_irrefl _)]
      have e0 : aLenSl (Z (.sl c 0 l.length (.grown 5))) = some (I .i64 ((l.length : Nat) : Int)) := rfl
      have f2 : aBin .eql (I .i64 ((l.length : Nat) : Int)) (I .i64 ((l.length : Nat) : Int)) = some (B true) := by
        rw [eql_int, decide_eq_true rfl]
      have hsz : (l.take l.length ++ a :: l.drop l.length).length = l.length + 1 := by simp
      have hlast : l.take l.length ++ a :: l.drop l.length = l ++ [a] := by simp
      have hcell : cells cI (l ++ [a]) = cells cI l ++ cI a := by simp [cells]
      have c1 : True ∧ (l.length + 1) * 40 ≤ 140737488355328 := ⟨trivial, by omega⟩
      by_cases hroom : 0 + (l.length + 1) * 5 ≤ vs.length
      · have ap : aAppend 5 40 (Z (.sl c 0 l.length (.grown 5))) (Z (.sl j 0 1 (.known 1))) s = some (Z (.sl c 0 (l.length + 1) (.grown 5)), s.set c (.cells true (setRange vs (0 + l.length * 5) (cI a)))) := by
          simp only [aAppend, src, if_neg (show ¬ (5 : Nat) = 0 by decide), if_neg (show ¬ (1 : Nat) = 0 by decide), hb]
          rw [if_pos c1, if_pos hroom]
        refine ⟨.sl c 0 (l.length + 1) (.grown 5), s.set c (.cells true (setRange vs (0 + l.length * 5) (cI a))), by simp only [p1, bd_some, le2, f1, br_false, e0, f2, br_true, ap, bd2_some], St.wf_set wf hcs _, by simp, .inr ⟨c, _, by rw [hsz], St.get_set_same _ _ _, ?_⟩, fun b hb' hne => St.get_set_ne _ _ (fun e => hne (by rw [e]; rfl)), fun d hd => .inl hd⟩
        rw [hlast, hcell, setRange_eq _ _ _ (by simp [cI]; omega), Nat.zero_add, ht, List.take_left']
        simp [hcl, cI]; omega
      · have ap : aAppend 5 40 (Z (.sl c 0 l.length (.grown 5))) (Z (.sl j 0 1 (.known 1))) s = some (Z (.sl s.size 0 (l.length + 1) (.grown 5)), (s.set c .dead).push (.cells true ((vs.drop 0).take (l.length * 5) ++ cI a))) := by
          simp only [aAppend, src, if_neg (show ¬ (5 : Nat) = 0 by decide), if_neg (show ¬ (1 : Nat) = 0 by decide), hb]
          rw [if_pos c1, if_neg hroom, if_pos (by omega)]
        refine ⟨.sl s.size 0 (l.length + 1) (.grown 5), (s.set c .dead).push (.cells true ((vs.drop 0).take (l.length * 5) ++ cI a)), by simp only [p1, bd_some, le2, f1, br_false, e0, f2, br_true, ap, bd2_some], St.wf_push (St.wf_set wf hcs _) _, by simp, .inr ⟨s.size, _, by rw [hsz], St.get_push_same (s.set c .dead) _, ?_⟩, fun b hb' hne => ?_, fun d hd => by cases hd; exact .inr (Nat.le_refl _)⟩
        · rw [hlast, hcell, List.drop_zero, ht, List.take_of_length_le]
          simp [hcl, cI]; omega
        · rw [St.get_push_ne (s.set c .dead) _ (by simp; omega), St.get_set_ne _ _ (fun e => hne (by rw [e]; rfl))]

theorem del_run (d : Nat) (wf : s.wf) (h : InS s x l) (hl : l.length ≤ 8000) {k : Nat} (hk : k < l.length) :
    ∃ y t, R (d + 1) 75 [Z x, I .i64 ((k : Nat) : Int), I .i64 ((k + 1 : Nat) : Int)] s = some (Z y, t) ∧ NewI s t x y (l.take k ++ l.drop (k + 1)) := by
  have hcl := cells_len (e := 5) cI_len l
  rcases h with ⟨rfl, rfl⟩ | ⟨c, vs, rfl, hb, ht⟩
  · simp at hk
  · have hvl : l.length * 5 ≤ vs.length := by
      have := congrArg List.length ht
      rw [List.length_take, hcl] at this
      omega
    have hcs := wf.lt hb
    have hd : decide ((5 : Nat) = 5 ∧ (0 : Int) ≤ ((k : Nat) : Int) ∧ ((k + 1 : Nat) : Int) = ((k : Nat) : Int) + 1 ∧ ((k + 1 : Nat) : Int) ≤ ((l.length : Nat) : Int) ∧ l.length ≤ 1000000 ∧ 0 + l.length * 5 ≤ vs.length) = true :=
      decide_eq_true ⟨rfl, by omega, by omega, by omega, by omega, by omega⟩
    obtain ⟨A, hA⟩ : ∃ A, A = setRange vs (0 + k * 5) ((vs.drop (0 + (k + 1) * 5)).take ((l.length - 1 - k) * 5)) := ⟨_, rfl⟩
    obtain ⟨Bl, hB⟩ : ∃ Bl, Bl = setRange A (0 + (l.length - 1) * 5) [.int .i64 0, .int .i64 0, .int .i64 0, .int .i64 0, .int .u32 0] := ⟨_, rfl⟩
    have hi : delP 75 5 [.int .i64 0, .int .i64 0, .int .i64 0, .int .i64 0, .int .u32 0] 75 [Z (.sl c 0 l.length (.grown 5)), I .i64 ((k : Nat) : Int), I .i64 ((k + 1 : Nat) : Int)] s =
        some (Z (.sl c 0 (l.length - 1) (.grown 5)), (s.set c (.cells true A)).set c (.cells true Bl)) := by
      rw [delP_at hb hd, Int.toNat_natCast, ← hA, ← hB]
    have hr := runQ_prim (P := Tryz.prog) (N := 8192) (d := d) (prim_del hi)
    have hsz : (l.take k ++ l.drop (k + 1)).length = l.length - 1 := by simp; omega
    refine ⟨_, _, hr, St.wf_set (St.wf_set wf hcs _) (by simpa using hcs) _, by simp, .inr ⟨c, Bl, by rw [hsz], St.get_set_same _ _ _, ?_⟩, fun b hb' hne => ?_, fun d hd => .inl hd⟩
    · have e3 : vs.take (k * 5) = cells cI (l.take k) := by
        rw [← cells_take (e := 5) cI_len k l, ← ht, List.take_take]
        congr 1; omega
      have e4 : (vs.drop ((k + 1) * 5)).take ((l.length - 1 - k) * 5) = cells cI (l.drop (k + 1)) := by
        rw [← cells_drop (e := 5) cI_len (k + 1) l, ← ht, List.drop_take]
        congr 1; omega
      have hln : ((vs.drop ((k + 1) * 5)).take ((l.length - 1 - k) * 5)).length = (l.length - 1 - k) * 5 := by simp; omega
      have hAl : A.length = vs.length := by rw [hA, setRange_length]
      have e6 : A.take ((l.length - 1) * 5) = cells cI (l.take k) ++ cells cI (l.drop (k + 1)) := by
        rw [hA, Nat.zero_add, Nat.zero_add, setRange_eq _ _ _ (by rw [hln]; omega), e3, e4, List.take_left']
        rw [List.length_append, cells_len (e := 5) cI_len, cells_len (e := 5) cI_len]
        simp; omega
      have e7 : Bl.take ((l.length - 1) * 5) = A.take ((l.length - 1) * 5) := by
        rw [hB, Nat.zero_add, setRange_eq _ _ _ (by simp; omega), List.append_assoc, List.take_left']
        simp; omega
      rw [hsz, e7, e6, cells_append]
    · have hne' : b ≠ c := fun e => hne (by rw [e]; rfl)
      rw [St.get_set_ne _ _ hne', St.get_set_ne _ _ hne']
end
end Go.Proofs.YtlhbidbdmdcdeaaGreatDoor


/-
  What entries come to, one by one, in plain words. No conditions but those named in each line.
-/
namespace Go.Proofs.YtlhbidbdmdcdeaaGreatDoor
open Go Go.Abs Go.Abs.F
set_option linter.unusedVariables false

structure FoS where
  l : List Inf
  ever : List Int
  rule : Pol
  v : Int
  w : Int

def lowI (id : Int) (a : Inf) : Bool := decide (a.i < id)
def kOf (l : List Inf) (id : Int) : Nat := (l.takeWhile (lowI id)).length
def thereP (l : List Inf) (id : Int) : Bool := l.any fun a => decide (a.i = id)
def infE (e : Ent) : Inf := ⟨e.i, e.t, e.f, e.o, e.u⟩
def insL (l : List Inf) (a : Inf) : List Inf := l.take (kOf l a.i) ++ a :: l.drop (kOf l a.i)
def delL (l : List Inf) (id : Int) : List Inf := l.take (kOf l id) ++ l.drop (kOf l id + 1)
def asksP (q : FoS) (e : Ent) : Int :=
  if mayE e = true then (if e.k = 1 ∧ e.i ∈ q.ever then 7 else if e.k = 2 ∧ thereP q.l e.i = false then 9 else if e.v < q.w then 12 else 0) else 1
def nextP (q : FoS) (e : Ent) : FoS :=
  if e.k = 1 then ⟨insL q.l (infE e), q.ever ++ [e.i], q.rule, q.v, e.v⟩
  else if e.k = 2 then ⟨delL q.l e.i, q.ever, q.rule, q.v, e.v⟩
  else if e.k = 3 then ⟨q.l, q.ever, q.rule, e.v, e.v⟩
  else ⟨q.l, q.ever, (parseP e.x).1, q.v, e.v⟩
def foldGo (q : FoS) : List Ent → Int × FoS
  | [] => (0, q)
  | e :: r => if asksP q e = 0 then foldGo (nextP q e) r else (asksP q e, q)
def fs0 : FoS := ⟨[], [], polD, 0, 0⟩

structure FOk (q : FoS) : Prop where
  up : q.l.Pairwise fun a b => a.i < b.i
  rng : ∀ a ∈ q.l, 1 ≤ a.i ∧ a.i ≤ 1073741824
  ev : ∀ a ∈ q.l, a.i ∈ q.ever
  len : q.l.length ≤ q.ever.length

theorem fs0_ok : FOk fs0 := ⟨.nil, (by intro a h; simp [fs0] at h), (by intro a h; simp [fs0] at h), Nat.le_refl _⟩

theorem tw_len {α : Type} {p : α → Bool} : ∀ (l : List α) (k : Nat), k ≤ l.length → (∀ (a : Nat) (x : α), a < k → l[a]? = some x → p x = true) → (∀ x, l[k]? = some x → p x = false) → (l.takeWhile p).length = k
  | [], k, h, _, _ => by simp at h; subst h; rfl
  | a :: l, 0, _, _, h => by
    have := h a rfl
    simp [List.takeWhile_cons, this]
  | a :: l, k + 1, hk, h1, h2 => by
    have h0 := h1 0 a (by omega) rfl
    rw [List.takeWhile_cons, h0]
    simp only [if_true, List.length_cons]
    rw [tw_len l k (by simpa using hk) (fun b x hb hx => h1 (b + 1) x (by omega) (by simpa using hx)) (fun x hx => h2 x (by simpa using hx))]

theorem take_kOf (l : List Inf) (id : Int) : l.take (kOf l id) = l.takeWhile (lowI id) := by
  unfold kOf
  induction l with
  | nil => rfl
  | cons a l ih =>
    rw [List.takeWhile_cons]
    split
    · rw [List.length_cons, List.take_succ_cons, ih]
    · rfl

theorem drop_kOf (l : List Inf) (id : Int) : l.drop (kOf l id) = l.dropWhile (lowI id) := by
  unfold kOf
  induction l with
  | nil => rfl
  | cons a l ih =>
    rw [List.takeWhile_cons, List.dropWhile_cons]
    split
    · rw [List.length_cons, List.drop_succ_cons, ih]
    · rfl

theorem low_take {l : List Inf} {id : Int} {a : Inf} (h : a ∈ l.take (kOf l id)) : a.i < id := by
  rw [take_kOf] at h
  have : ∀ m : List Inf, a ∈ m.takeWhile (lowI id) → a.i < id := by
    intro m
    induction m with
    | nil => intro h; cases h
    | cons b m ih =>
      intro h
      rw [List.takeWhile_cons] at h
      split at h
      · rename_i hb
        rcases List.mem_cons.1 h with rfl | h
        · simpa [lowI] using hb
        · exact ih h
      · cases h
  exact this l h

theorem high_drop {l : List Inf} {id : Int} (hp : l.Pairwise fun a b => a.i < b.i) {a : Inf} (h : a ∈ l.drop (kOf l id)) : id ≤ a.i := by
  rw [drop_kOf] at h
  have : ∀ m : List Inf, (m.Pairwise fun a b => a.i < b.i) → a ∈ m.dropWhile (lowI id) → id ≤ a.i := by
    intro m
    induction m with
    | nil => intro _ h; cases h
    | cons b m ih =>
      intro hp h
      rw [List.dropWhile_cons] at h
      split at h
      · exact ih (List.pairwise_cons.1 hp).2 h
      · rename_i hb
        have hb' : id ≤ b.i := by simpa [lowI] using hb
        rcases List.mem_cons.1 h with rfl | h
        · exact hb'
        · have := (List.pairwise_cons.1 hp).1 a h
          omega
  exact this l hp h

theorem up_at {l : List Inf} (hp : l.Pairwise fun a b => a.i < b.i) {a b : Nat} {x y : Inf} (hab : a < b) (hx : l[a]? = some x) (hy : l[b]? = some y) : x.i < y.i := by
  obtain ⟨h1, rfl⟩ := List.getElem?_eq_some_iff.1 hx
  obtain ⟨h2, rfl⟩ := List.getElem?_eq_some_iff.1 hy
  exact List.pairwise_iff_getElem.1 hp a b h1 h2 hab

theorem found_eq {l : List Inf} {id : Int} {k : Nat} (h : Found l id k) (hp : l.Pairwise fun a b => a.i < b.i) (hr : ∀ a ∈ l, 1 ≤ a.i ∧ a.i ≤ 1073741824) (h0 : 1 ≤ id) (h1 : id ≤ 1073741824) : k = kOf l id ∧ hitI l id k = thereP l id := by
  have hc : ∀ a ∈ l, cmpI id a = a.i - id := fun a ha => by
    have := hr a ha
    exact cmpI_in (by omega) h1 (by omega) this.2
  have hm : ∀ (a b : Nat) (x y : Inf), a < b → l[a]? = some x → l[b]? = some y → cmpI id y < 0 → cmpI id x < 0 := fun a b x y hab hx hy hlt => by
    have := up_at hp hab hx hy
    rw [hc y (List.mem_of_getElem? hy)] at hlt
    rw [hc x (List.mem_of_getElem? hx)]
    omega
  have hl : ∀ (a : Nat) (x : Inf), a < k → l[a]? = some x → x.i < id := fun a x ha hx => by
    have := h.low hm a x ha hx
    rw [hc x (List.mem_of_getElem? hx)] at this
    omega
  have hh : ∀ (a : Nat) (x : Inf), k ≤ a → l[a]? = some x → id ≤ x.i := fun a x ha hx => by
    have := h.high hm a x ha hx
    rw [hc x (List.mem_of_getElem? hx)] at this
    omega
  refine ⟨(tw_len l k h.le (fun a x ha hx => decide_eq_true (hl a x ha hx)) (fun x hx => decide_eq_false (by have := hh k x (Nat.le_refl _) hx; omega))).symm, ?_⟩
  unfold hitI thereP
  cases hk : l[k]? with
  | none =>
    symm
    rw [List.any_eq_false]
    intro x hx
    obtain ⟨a, ha⟩ := List.getElem?_of_mem hx
    have hle : l.length ≤ k := List.getElem?_eq_none_iff.1 hk
    have := hl a x (by have := (List.getElem?_eq_some_iff.1 ha).1; omega) ha
    simp only [decide_eq_true_eq]
    omega
  | some y =>
    have hy := List.mem_of_getElem? hk
    show decide (cmpI id y = 0) = _
    rw [hc y hy]
    by_cases e : y.i = id
    · rw [decide_eq_true (by omega)]
      symm
      rw [List.any_eq_true]
      exact ⟨y, hy, by simpa using e⟩
    · rw [decide_eq_false (by omega)]
      symm
      rw [List.any_eq_false]
      intro x hx
      obtain ⟨a, ha⟩ := List.getElem?_of_mem hx
      simp only [decide_eq_true_eq]
      intro ex
      have hyk := hh k y (Nat.le_refl _) hk
      rcases Nat.lt_trichotomy a k with hlt | rfl | hgt
      · have := hl a x hlt ha; omega
      · rw [ha] at hk; cases hk; exact e ex
      · have := up_at hp hgt hk ha; omega

theorem kOf_lt {l : List Inf} {id : Int} (hp : l.Pairwise fun a b => a.i < b.i) (h : thereP l id = true) : kOf l id < l.length := by
  unfold thereP at h
  rw [List.any_eq_true] at h
  obtain ⟨x, hx, ex⟩ := h
  have ex' : x.i = id := by simpa using ex
  have hd : x ∈ l.drop (kOf l id) := by
    have hx' := hx
    rw [← List.take_append_drop (kOf l id) l] at hx'
    rcases List.mem_append.1 hx' with h | h
    · have := low_take h; omega
    · exact h
  rcases Nat.lt_or_ge (kOf l id) l.length with h | h
  · exact h
  · rw [List.drop_eq_nil_of_le h] at hd; cases hd

theorem kOf_le (l : List Inf) (id : Int) : kOf l id ≤ l.length := (List.takeWhile_sublist _).length_le

theorem insL_mem {l : List Inf} {a b : Inf} (h : b ∈ insL l a) : b = a ∨ b ∈ l := by
  unfold insL at h
  rcases List.mem_append.1 h with h | h
  · exact .inr (List.mem_of_mem_take h)
  · rcases List.mem_cons.1 h with h | h
    · exact .inl h
    · exact .inr (List.mem_of_mem_drop h)

theorem delL_sub (l : List Inf) (id : Int) : (delL l id).Sublist l := by
  have h := List.take_append_drop (kOf l id) l
  conv => rhs; rw [← h]
  exact List.Sublist.append (List.Sublist.refl _) (by rw [← List.drop_drop]; exact List.drop_sublist 1 _)

theorem next_ok {q : FoS} {e : Ent} (h : FOk q) (ha : asksP q e = 0) : FOk (nextP q e) := by
  have hm : mayE e = true := by
    unfold asksP at ha
    by_cases hm : mayE e = true
    · exact hm
    · rw [if_neg hm] at ha; cases ha
  obtain ⟨v0, v1, k0, k1, h1, h2, h3, h4⟩ := mayE_range hm
  unfold nextP
  by_cases c1 : e.k = 1
  · rw [if_pos c1]
    have hne : e.i ∉ q.ever := by
      unfold asksP at ha
      rw [if_pos hm] at ha
      intro hin
      rw [if_pos ⟨c1, hin⟩] at ha
      cases ha
    obtain ⟨_, i0, i1, _⟩ := h1 c1
    refine ⟨?_, fun a ha => ?_, fun a ha => ?_, ?_⟩
    · show (insL q.l (infE e)).Pairwise _
      unfold insL
      refine List.pairwise_append.2 ⟨h.up.sublist (List.take_sublist _ _), List.pairwise_cons.2 ⟨fun b hb => ?_, h.up.sublist (List.drop_sublist _ _)⟩, fun a ha b hb => ?_⟩
      · have hb1 := high_drop h.up hb
        have hb2 := h.ev b (List.mem_of_mem_drop hb)
        have : b.i ≠ e.i := fun he => hne (by rw [← he]; exact hb2)
        show e.i < b.i
        have : e.i ≤ b.i := hb1
        omega
      · have ha1 := low_take ha
        rcases List.mem_cons.1 hb with rfl | hb
        · exact ha1
        · have := high_drop h.up hb
          omega
    · rcases insL_mem ha with rfl | ha
      · exact ⟨i0, i1⟩
      · exact h.rng a ha
    · rcases insL_mem ha with rfl | ha
      · exact List.mem_append_right _ (by simp [infE])
      · exact List.mem_append_left _ (h.ev a ha)
    · have := h.len
      simp only [insL, List.length_append, List.length_take, List.length_cons, List.length_drop, List.length_nil]
      have := kOf_le q.l (infE e).i
      omega
  · rw [if_neg c1]
    by_cases c2 : e.k = 2
    · rw [if_pos c2]
      have hs := delL_sub q.l e.i
      exact ⟨h.up.sublist hs, fun a ha => h.rng a (hs.subset ha), fun a ha => h.ev a (hs.subset ha), Nat.le_trans hs.length_le h.len⟩
    · rw [if_neg c2]
      by_cases c3 : e.k = 3
      · rw [if_pos c3]; exact ⟨h.up, h.rng, h.ev, h.len⟩
      · rw [if_neg c3]; exact ⟨h.up, h.rng, h.ev, h.len⟩

theorem next_ever {q : FoS} {e : Ent} : (nextP q e).ever.length ≤ q.ever.length + 1 := by
  unfold nextP
  split
  · simp
  · split
    · simp
    · split <;> simp
end Go.Proofs.YtlhbidbdmdcdeaaGreatDoor

