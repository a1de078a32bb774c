/-
  Several texts in one: what functions that the law reaches compute. No conditions but those named in each line.
-/
import Derived.Test.YtlhbidbdmdcdeaaGreatDoorFnsB
import Derived.Test.YtlhbidbdmdcdeaaGreatDoorAbsE
/-
  The document's own reader of a line, whole. No conditions but those named in each line.
-/
namespace Go.Proofs.YtlhbidbdmdcdeaaGreatDoor
open Go Go.Abs Go.Abs.F
set_option linter.unusedVariables false
section
variable {s t : St} {x y : S} {l : Bs} {i c : Nat}

theorem set_c {p : Pol} {n : Int} : setRange (cP p) 4 [.int .i64 n] = cP { p with c := n } := rfl
theorem set_n {p : Pol} {n : Int} : setRange (cP p) 5 [.int .i64 n] = cP { p with n := n } := rfl

theorem rline_run (d : Nat) (wf : s.wf) {p : Pol} {was : List Bool} {ws : List Bs} {cap : Cap} (hp : s.get i = some (.cells true (cP p))) (hc : s.get c = some (.cells true (boolS was))) (hw : was.length = 6) (hic : i ≠ c) (hx : RT s x ws) (hox : ∀ b, own x = some b → b < s.size) :
    ∃ b t, R (d + 2) 84 [Z (.ptr i 0), Z (.sl c 0 6 cap), Z x] s = some (B b, t) ∧
      match rlineP p was ws with
      | none => b = false ∧ Gr s t
      | some (p', was') => b = true ∧ t.get i = some (.cells true (cP p')) ∧ t.get c = some (.cells true (boolS was')) ∧ But2 i c s t := by
  rw [f84_run]
  unfold f84
  have hll := hx.lens
  have at_ : ∀ (j : Nat) (w : Bs), ws[j]? = some w → ∃ q, aIndexSl 1 (Z x) (I .i64 (j : Nat)) = some q ∧ aLoad1 q s.get = some (Z (.str w)) := fun j w h => RT.atT hx (n := ((j : Nat) : Int)) rfl h
  have was_at : ∀ j, j < 6 → ∃ q, aIndexSl 1 (Z (.sl c 0 6 cap)) (I .i64 (j : Nat)) = some q ∧ aLoad1 q s.get = some (B (was.getD j false)) ∧ q = Z (.ptr c j) := fun j hj => by
    refine ⟨Z (.ptr c j), ?_, ?_, rfl⟩
    · have := aIndexSl_int (e := 1) (b := c) (o := 0) (len := 6) (c := cap) (k := .i64) (n := ((j : Nat) : Int)) rfl hj
      simpa using this
    · refine aLoad1_of hc ?_
      rw [boolS, List.getElem?_map, List.getD_eq_getElem?_getD, List.getElem?_eq_getElem (by omega)]
      rfl
  by_cases h3 : ws.length = 3
  · obtain ⟨w0, w1, w2, rfl⟩ : ∃ w0 w1 w2, ws = [w0, w1, w2] := by
      match ws, h3 with
      | [a, b, c], _ => exact ⟨a, b, c, rfl⟩
    have hll : aLenSl (Z x) = some (I .i64 3) := hll
    obtain ⟨q0, i0, l0⟩ := at_ 0 w0 rfl
    obtain ⟨q2, i2, l2⟩ := at_ 2 w2 rfl
    have i0 : aIndexSl 1 (Z x) (I .i64 0) = some q0 := i0
    have i2 : aIndexSl 1 (Z x) (I .i64 2) = some q2 := i2
    by_cases hk : w0 = kKeep
    · have hr : rlineP p was [w0, w1, w2] = rkeep p was w1 (if w2 = kEver then 0 else rnumV w2) := by
        unfold rlineP
        rw [if_pos ⟨rfl, hk⟩]
        rfl
      rw [hr]
      have hn := rnumber_run (l := w2) (s := s) d
      have hk' : decide (w0 = [107, 101, 101, 112]) = true := decide_eq_true hk
      have ev : decide (w2 = [101, 118, 101, 114]) = decide (w2 = kEver) := rfl
      obtain ⟨j, τ, lp, hj⟩ := rkeep_run (n := if w2 = kEver then 0 else rnumV w2) (cap := cap) (w1 := w1) d wf hp hc hw hic hx hox rfl
      have res : ∃ b, (jn (jn (loops (f84_l1 (R (d + 1)) 8192) 8192 [Z (.ptr i 0), Z (.sl c 0 6 cap), Z x, I .i64 (if w2 = kEver then 0 else rnumV w2), I .i64 0] s)
          (fun v13 s14 => some (JO.normal [], s14)) (fun i15 v13 s14 => if i15 = 0 then some (JO.normal v13, s14) else some (JO.exit i15 v13, s14)) (fun r16 s14 => some (JO.ret r16, s14)))
          (fun v17 s18 => some ((B false), s18)) (fun i19 v17 s18 => none) (fun r20 s18 => some (r20, s18)) : Option (T × St)) = some (B b, τ) ∧
          match rkeep p was w1 (if w2 = kEver then 0 else rnumV w2) with
          | none => b = false ∧ Gr s τ
          | some (p', was') => b = true ∧ τ.get i = some (.cells true (cP p')) ∧ τ.get c = some (.cells true (boolS was')) ∧ But2 i c s τ := by
        rw [lp]
        cases hrk : rkeep p was w1 (if w2 = kEver then 0 else rnumV w2) with
        | none =>
          rw [hrk] at hj
          obtain ⟨rfl, g⟩ := hj
          exact ⟨false, by simp, rfl, g⟩
        | some pw =>
          rw [hrk] at hj
          obtain ⟨rfl, r1, r2, r3⟩ := hj
          exact ⟨true, by simp, rfl, r1, r2, r3⟩
      obtain ⟨b, e, hb⟩ := res
      refine ⟨b, τ, ?_, hb⟩
      by_cases he : w2 = kEver
      · rw [if_pos he] at e
        have he' : decide (w2 = [101, 118, 101, 114]) = true := decide_eq_true he
        generalize R (d + 1) = r at *
        simp only [hll, bd_some, eql_int, decide_true, gd_bool, beq_self_eq_true, gT_true, i0, l0, eql_str, hk', aPick_bool_true, br_true, i2, l2, hn, bd2_some, he', jn_normal, List.getD_cons_zero, List.getD_cons_succ]
        exact e
      · rw [if_neg he] at e
        have he' : decide (w2 = [101, 118, 101, 114]) = false := decide_eq_false he
        generalize R (d + 1) = r at *
        simp only [hll, bd_some, eql_int, decide_true, gd_bool, beq_self_eq_true, gT_true, i0, l0, eql_str, hk', aPick_bool_true, br_true, br_false, i2, l2, hn, bd2_some, he', jn_normal, List.getD_cons_zero, List.getD_cons_succ]
        exact e
    · have hr : rlineP p was [w0, w1, w2] = none := by
        unfold rlineP
        rw [if_neg (fun h => hk h.2), if_pos (.inl (by simp))]
      rw [hr]
      have hk' : decide (w0 = [107, 101, 101, 112]) = false := decide_eq_false hk
      refine ⟨false, s, ?_, rfl, Gr.refl wf⟩
      generalize R (d + 1) = r at *
      simp [hll, i0, l0, hk', gtt]
  · by_cases h2 : ws.length = 2
    · obtain ⟨w0, w1, rfl⟩ : ∃ w0 w1, ws = [w0, w1] := by
        match ws, h2 with
        | [a, b], _ => exact ⟨a, b, rfl⟩
      have hll : aLenSl (Z x) = some (I .i64 2) := hll
      obtain ⟨q0, i0, l0⟩ := at_ 0 w0 rfl
      obtain ⟨q1, i1, l1⟩ := at_ 1 w1 rfl
      have i0 : aIndexSl 1 (Z x) (I .i64 0) = some q0 := i0
      have i1 : aIndexSl 1 (Z x) (I .i64 1) = some q1 := i1
      have hn := rnumber_run (l := w1) (s := s) d
      have hr : rlineP p was [w0, w1] = if rnumV w1 < 0 then none else if w0 = kSeal ∧ was.getD 4 false = false then some ({ p with c := rnumV w1 }, was.set 4 true) else if w0 = kSpan ∧ was.getD 5 false = false then some ({ p with n := rnumV w1 }, was.set 5 true) else none := by
        unfold rlineP
        rw [if_neg (fun h => by simp at h)]
        by_cases hneg : rnumV w1 < 0
        · rw [if_pos (.inr hneg), if_pos hneg]
        · rw [if_neg (fun h => h.elim (fun h => h rfl) hneg), if_neg hneg]
          rfl
      rw [hr]
      by_cases hneg : rnumV w1 < 0
      · rw [if_pos hneg]
        refine ⟨false, s, ?_, rfl, Gr.refl wf⟩
        generalize rnumV w1 = V at *
        generalize R (d + 1) = r at *
        simp [hll, i1, l1, hn, hneg]
      · rw [if_neg hneg]
        obtain ⟨q4, i4, l4, hq4⟩ := was_at 4 (by omega)
        obtain ⟨q5, i5, l5, hq5⟩ := was_at 5 (by omega)
        subst hq4 hq5
        have i4 : aIndexSl 1 (Z (.sl c 0 6 cap)) (I .i64 4) = some (Z (.ptr c 4)) := i4
        have i5 : aIndexSl 1 (Z (.sl c 0 6 cap)) (I .i64 5) = some (Z (.ptr c 5)) := i5
        obtain ⟨a1, a2, sa1, sa2, ra1, ra2, ba⟩ := two_stores (j := 4) (m := 4) (n := rnumV w1) wf hp hc hic (by omega) (by omega) set_c
        obtain ⟨b1, b2, sb1, sb2, rb1, rb2, bb⟩ := two_stores (j := 5) (m := 5) (n := rnumV w1) wf hp hc hic (by omega) (by omega) set_n
        have fa4 : aFieldAddr 4 (Z (.ptr i 0)) = some (Z (.ptr i 4)) := rfl
        have fa5 : aFieldAddr 5 (Z (.ptr i 0)) = some (Z (.ptr i 5)) := rfl
        obtain ⟨x4, hx4⟩ : ∃ x4, x4 = was.getD 4 false := ⟨_, rfl⟩
        obtain ⟨x5, hx5⟩ : ∃ x5, x5 = was.getD 5 false := ⟨_, rfl⟩
        rw [← hx4] at l4 ⊢
        rw [← hx5] at l5 ⊢
        have ks : decide (w0 = [115, 101, 97, 108]) = decide (w0 = kSeal) := rfl
        have kp : decide (w0 = [115, 112, 97, 110]) = decide (w0 = kSpan) := rfl
        have hsp : w0 = kSeal → ¬ w0 = kSpan := fun h h' => by rw [h] at h'; exact absurd h' (by decide)
        generalize rnumV w1 = V at *
        generalize R (d + 1) = r at *
        by_cases hs : w0 = kSeal
        · rw [decide_eq_true hs] at ks
          rw [decide_eq_false (hsp hs)] at kp
          cases x4 with
          | false =>
            rw [if_pos ⟨hs, rfl⟩]
            exact ⟨true, a2, by simp [hll, i1, l1, hn, hneg, i0, l0, ks, i4, l4, fa4, sa1, sa2], rfl, ra1, ra2, ba⟩
          | true =>
            rw [if_neg (fun h => by cases h.2), if_neg (fun h => hsp hs h.1)]
            exact ⟨false, s, by simp [hll, i1, l1, hn, hneg, i0, l0, ks, i4, l4, kp, gtt], rfl, Gr.refl wf⟩
        · rw [decide_eq_false hs] at ks
          rw [if_neg (fun h => hs h.1)]
          by_cases hp' : w0 = kSpan
          · rw [decide_eq_true hp'] at kp
            cases x5 with
            | false =>
              rw [if_pos ⟨hp', rfl⟩]
              exact ⟨true, b2, by simp [hll, i1, l1, hn, hneg, i0, l0, ks, kp, i5, l5, fa5, sb1, sb2], rfl, rb1, rb2, bb⟩
            | true =>
              rw [if_neg (fun h => by cases h.2)]
              exact ⟨false, s, by simp [hll, i1, l1, hn, hneg, i0, l0, ks, kp, i5, l5], rfl, Gr.refl wf⟩
          · rw [decide_eq_false hp'] at kp
            rw [if_neg (fun h => hp' h.1)]
            exact ⟨false, s, by simp [hll, i1, l1, hn, hneg, i0, l0, ks, kp], rfl, Gr.refl wf⟩
    · have hr : rlineP p was ws = none := by
        unfold rlineP
        rw [if_neg (fun h => h3 h.1), if_pos (.inl h2)]
      rw [hr]
      have c3 : ¬ ((ws.length : Nat) : Int) = 3 := by omega
      have c2 : ¬ ((ws.length : Nat) : Int) = 2 := by omega
      refine ⟨false, s, ?_, rfl, Gr.refl wf⟩
      generalize ((ws.length : Nat) : Int) = L at *
      generalize R (d + 1) = r at *
      simp [hll, c3, c2, gtt]
end
end Go.Proofs.YtlhbidbdmdcdeaaGreatDoor

/-
  The document's own reader of policies, whole. No conditions but those named in each line.
-/
namespace Go.Proofs.YtlhbidbdmdcdeaaGreatDoor
open Go Go.Abs Go.Abs.F
set_option linter.unusedVariables false

def rgo : Pol → List Bool → Nat → List Bs → Pol × Int × Int
  | p, _, _, [] => if mayP p then (p, 0, 0) else (pol0, 5, 0)
  | p, was, k, x :: r => if wordsOf x = [] then rgo p was (k + 1) r else
    match rlineP p was (wordsOf x) with
    | none => (pol0, 4, ((k + 1 : Nat) : Int))
    | some (p', was') => rgo p' was' (k + 1) r

def linesR : Bs → Bs → List Bs
  | [], cur => [cur]
  | b :: r, cur => if b = 10 then cur :: linesR r [] else linesR r (cur ++ [b])

theorem linesR_eq : ∀ (x cur : Bs), linesR x cur = (match splitB 10 x with | [] => [] | h :: t => (cur ++ h) :: t)
  | [], cur => by simp [linesR, splitB]
  | b :: r, cur => by
    unfold linesR
    have hne : splitB 10 r ≠ [] := fun h => by have := splitB_len 10 r; rw [h] at this; simp at this
    rw [splitB_cons]
    by_cases h : b = 10
    · rw [if_pos h, linesR_eq r []]
      have : Nat.beq b.toNat (10 : UInt8).toNat = true := beq_byte.2 h
      rw [this]
      cases hs : splitB 10 r with
      | nil => exact absurd hs hne
      | cons a t => simp
    · have : Nat.beq b.toNat (10 : UInt8).toNat = false := by
        rw [Bool.eq_false_iff]
        exact fun e => h (beq_byte.1 e)
      rw [if_neg h, this, linesR_eq r (cur ++ [b])]
      cases hs : splitB 10 r with
      | nil => exact absurd hs hne
      | cons a t => simp [consHd]

theorem linesR_of (x : Bs) : linesR x [] = splitB 10 x := by
  rw [linesR_eq]
  cases hs : splitB 10 x with
  | nil => rfl
  | cons a t => simp

def rparseP (l : Bs) : Pol × Int × Int := rgo polD (List.replicate 6 false) 0 (splitB 10 l)
abbrev resP (q : Pol × Int × Int) : T := .tup [.agg (cP q.1), .s (.int .i64 q.2.1), .s (.int .i64 q.2.2)]

theorem rlineP_len {p p' : Pol} {was was' : List Bool} {ws : List Bs} (h : rlineP p was ws = some (p', was')) : was'.length = was.length := by
  unfold rlineP rkeep at h
  split at h
  · split at h
    · cases h
    · cases h; simp
  · split at h
    · cases h
    · split at h
      · cases h; simp
      · split at h
        · cases h; simp
        · cases h

section
variable {s t : St} {x y : S} {l : Bs} {i c r0 : Nat}

set_option maxHeartbeats 1000000 in
theorem rparse_run (d : Nat) (wf : s.wf) (hl : l.length ≤ 8000) : ∃ t, R (d + 3) 64 [Z (.str l)] s = some (resP (rparseP l), t) ∧ Gr s t := by
  rw [f64_run]
  unfold f64
  have hll : aLenStr (Z (.str l)) = some (I .i64 ((l.length : Nat) : Int)) := rfl
  obtain ⟨s1, hs1⟩ : ∃ s1, s1 = s.push (.cells true (cP pol0)) := ⟨_, rfl⟩
  have nw1 : aNew s (nCells [.int .i64 0, .int .i64 0, .int .i64 0, .int .i64 0, .int .i64 0, .int .i64 0]) = some (Z (.ptr s.size 0), s1) := by rw [hs1]; rfl
  have g1 : Gr s s1 := by rw [hs1]; exact Gr.push wf _
  have b1 : s1.get s.size = some (.cells true (cP pol0)) := by rw [hs1]; exact St.get_push_same _ _
  have z1 : s1.size = s.size + 1 := by rw [hs1]; simp
  obtain ⟨s2, e2, g2⟩ := rdefault_run (d + 1) g1.wf
  obtain ⟨s3, hs3⟩ : ∃ s3, s3 = s2.push (.cells true (cP pol0)) := ⟨_, rfl⟩
  have nw3 : aNew s2 (nCells [.int .i64 0, .int .i64 0, .int .i64 0, .int .i64 0, .int .i64 0, .int .i64 0]) = some (Z (.ptr s2.size 0), s3) := by rw [hs3]; rfl
  have b3 : s3.get s2.size = some (.cells true (cP pol0)) := by rw [hs3]; exact St.get_push_same _ _
  have g3 : Gr s2 s3 := by rw [hs3]; exact Gr.push g2.wf _
  have z3 : s3.size = s2.size + 1 := by rw [hs3]; simp
  obtain ⟨s4, hs4⟩ : ∃ s4, s4 = s3.set s2.size (.cells true (cP polD)) := ⟨_, rfl⟩
  have st4 := store6 (p := polD) b3 rfl
  rw [← hs4] at st4
  have b4 : s4.get s2.size = some (.cells true (cP polD)) := by rw [hs4]; exact St.get_set_same _ _ _
  have z4 : s4.size = s2.size + 1 := by rw [hs4]; simp [z3]
  have wf4 : s4.wf := by rw [hs4]; exact St.wf_set g3.wf (by omega) _
  have o4 : ∀ b, b < s2.size → s4.get b = s2.get b := fun b hb => by rw [hs4, St.get_set_ne _ _ (by omega)]; exact g3.2.2 b hb
  obtain ⟨s5, hs5⟩ : ∃ s5, s5 = s4.push (.cells true (boolS (List.replicate 6 false))) := ⟨_, rfl⟩
  have nw5 : aNew s4 (nMake 1 1 [.bool false] (I .i64 6) (I .i64 6)) = some (Z (.sl s4.size 0 6 (.known 6)), s5) := by rw [hs5]; rfl
  have g5 : Gr s4 s5 := by rw [hs5]; exact Gr.push wf4 _
  have hz2 := g2.2.1
  have i2 : s2.size ≠ s4.size := by omega
  have b5i : s5.get s2.size = some (.cells true (cP polD)) := by rw [g5.2.2 _ (by omega)]; exact b4
  have b5c : s5.get s4.size = some (.cells true (boolS (List.replicate 6 false))) := by rw [hs5]; exact St.get_push_same _ _
  have b5r : s5.get s.size = some (.cells true (cP pol0)) := by rw [g5.2.2 _ (by omega), o4 _ (by omega), g2.2.2 _ (by omega)]; exact b1
  have z5 : s5.size = s4.size + 1 := by rw [hs5]; simp
  have old5 : ∀ b, b < s.size → s5.get b = s.get b := fun b hb => by rw [g5.2.2 _ (by omega), o4 _ (by omega), g2.2.2 _ (by omega), g1.2.2 _ hb]
  -- what lies ahead of the loop
  obtain ⟨I0, hI⟩ : ∃ I0, I0 = s2.size := ⟨_, rfl⟩
  obtain ⟨C0, hC⟩ : ∃ C0, C0 = s4.size := ⟨_, rfl⟩
  obtain ⟨R0, hR⟩ : ∃ R0, R0 = s.size := ⟨_, rfl⟩
  have hIC : I0 ≠ C0 := by omega
  have hRI : R0 ≠ I0 := by omega
  have hRC : R0 ≠ C0 := by omega
  rw [← hI] at nw3 st4 b5i
  rw [← hC] at nw5 b5c
  rw [← hR] at nw1 b5r
  have res6 : ∀ (u : St) (q : Pol), u.get R0 = some (.cells true (cP pol0)) → ∃ u', aStore 6 (Z (.ptr R0 0)) (AP q) u = some (tt, u') ∧ aLoadN 6 (Z (.ptr R0 0)) u'.get = some (AP q) ∧ (u.wf → u'.wf) ∧ u'.size = u.size ∧ ∀ b, b ≠ R0 → u'.get b = u.get b := fun u q h =>
    ⟨_, store6 h rfl, load6 (St.get_set_same _ _ _), fun w => St.wf_set w (w.lt h) _, by simp, fun b hb => St.get_set_ne _ _ hb⟩
  obtain ⟨j, τ, lp, hj⟩ := loops_inv (f := f64_l1 (R (d + 2)) 8192) (fun q v u => ∃ (k a n : Nat) (p : Pol) (was : List Bool), q + k = l.length + 1 ∧ a ≤ k ∧ n ≤ k ∧ v = [Z (.str l), Z (.ptr R0 0), Z (.ptr I0 0), Z (.sl C0 0 6 (.known 6)), I .i64 (a : Nat), I .i64 (n : Nat), I .i64 (k : Nat)] ∧
      u.wf ∧ s5.size ≤ u.size ∧ (∀ b, b < s.size → u.get b = s.get b) ∧ u.get R0 = some (.cells true (cP pol0)) ∧ u.get I0 = some (.cells true (cP p)) ∧ u.get C0 = some (.cells true (boolS was)) ∧ was.length = 6 ∧
      rgo p was n (if k ≤ l.length then linesR (l.drop k) ((l.take k).drop a) else []) = rparseP l)
    (fun j u => u.wf ∧ s5.size ≤ u.size ∧ (∀ b, b < s.size → u.get b = s.get b) ∧ (j = .ret (resP (rparseP l)) ∨ ∃ p was n, j = .exit 0 [Z (.ptr R0 0), Z (.ptr I0 0)] ∧ u.get R0 = some (.cells true (cP pol0)) ∧ u.get I0 = some (.cells true (cP p)) ∧ rgo p was n [] = rparseP l)) (by
    rintro q v u ⟨k, a, n, p, was, hq, hak, hnk, rfl, wfu, hsz, old, bR, bI, bC, hwl, hgo⟩
    have w1 : IntKind.i64.wrap ((k : Int) + 1) = ((k + 1 : Nat) : Int) := by rw [wrap_in _ (by omega) (by omega)]; omega
    have w2 : IntKind.i64.wrap ((n : Int) + 1) = ((n + 1 : Nat) : Int) := by rw [wrap_in _ (by omega) (by omega)]; omega
    by_cases hkl : k ≤ l.length
    · have c0 : ((k : Nat) : Int) ≤ ((l.length : Nat) : Int) := by omega
      rw [if_pos hkl] at hgo
      -- the end of a line
      have line : ∀ rest : List Bs, rgo p was n ((l.take k).drop a :: rest) = rparseP l → rest = (if k + 1 ≤ l.length then linesR (l.drop (k + 1)) ((l.take (k + 1)).drop (k + 1)) else []) →
          (k = l.length ∨ (k < l.length ∧ aAtStr (Z (.str l)) (I .i64 (k : Nat)) = some (I .u8 10))) →
          (∃ v' s' k', f64_l1 (R (d + 2)) 8192 [Z (.str l), Z (.ptr R0 0), Z (.ptr I0 0), Z (.sl C0 0 6 (.known 6)), I .i64 (a : Nat), I .i64 (n : Nat), I .i64 (k : Nat)] u = some (.normal v', s') ∧ q = k' + 1 ∧
            ∃ (k a n : Nat) (p : Pol) (was : List Bool), k' + k = l.length + 1 ∧ a ≤ k ∧ n ≤ k ∧ v' = [Z (.str l), Z (.ptr R0 0), Z (.ptr I0 0), Z (.sl C0 0 6 (.known 6)), I .i64 (a : Nat), I .i64 (n : Nat), I .i64 (k : Nat)] ∧
              s'.wf ∧ s5.size ≤ s'.size ∧ (∀ b, b < s.size → s'.get b = s.get b) ∧ s'.get R0 = some (.cells true (cP pol0)) ∧ s'.get I0 = some (.cells true (cP p)) ∧ s'.get C0 = some (.cells true (boolS was)) ∧ was.length = 6 ∧
              rgo p was n (if k ≤ l.length then linesR (l.drop k) ((l.take k).drop a) else []) = rparseP l) ∨
          ∃ j s', f64_l1 (R (d + 2)) 8192 [Z (.str l), Z (.ptr R0 0), Z (.ptr I0 0), Z (.sl C0 0 6 (.known 6)), I .i64 (a : Nat), I .i64 (n : Nat), I .i64 (k : Nat)] u = some (j, s') ∧ (∀ v, j ≠ .normal v) ∧
            (s'.wf ∧ s5.size ≤ s'.size ∧ (∀ b, b < s.size → s'.get b = s.get b) ∧ (j = .ret (resP (rparseP l)) ∨ ∃ p was n, j = .exit 0 [Z (.ptr R0 0), Z (.ptr I0 0)] ∧ s'.get R0 = some (.cells true (cP pol0)) ∧ s'.get I0 = some (.cells true (cP p)) ∧ rgo p was n [] = rparseP l)) := fun rest h1 hrest hch => by
        have pc := piece_str hak hkl
        obtain ⟨o, u1, e1, f1⟩ := rwords_run (l := (l.take k).drop a) (d + 1) wfu (by rw [List.length_drop, List.length_take]; omega)
        have hIlt := wfu.lt bI
        have hClt := wfu.lt bC
        have hRlt := wfu.lt bR
        have lo := f1.rd.lens
        have hch' : ¬ ((k : Nat) : Int) < ((l.length : Nat) : Int) ∨ (((k : Nat) : Int) < ((l.length : Nat) : Int) ∧ aAtStr (Z (.str l)) (I .i64 (k : Nat)) = some (I .u8 10)) := by
          rcases hch with h | ⟨h, ha⟩
          · exact .inl (by omega)
          · exact .inr ⟨by omega, ha⟩
        have hkk : q = q - 1 + 1 := by omega
        by_cases hws : wordsOf ((l.take k).drop a) = []
        · have h2 : rgo p was (n + 1) rest = rparseP l := by rw [← h1, rgo, if_pos hws]
          have lz : aLenSl (Z o) = some (I .i64 0) := by rw [lo, hws]; rfl
          left
          refine ⟨[Z (.str l), Z (.ptr R0 0), Z (.ptr I0 0), Z (.sl C0 0 6 (.known 6)), I .i64 ((k + 1 : Nat) : Int), I .i64 ((n + 1 : Nat) : Int), I .i64 ((k + 1 : Nat) : Int)], u1, q - 1, ?_, hkk, k + 1, k + 1, n + 1, p, was, by omega, Nat.le_refl _, by omega, rfl, f1.gr.wf, Nat.le_trans hsz f1.gr.2.1,
            (fun b hb => by rw [f1.gr.2.2 b (by omega)]; exact old b hb), by rw [f1.gr.2.2 _ hRlt]; exact bR, by rw [f1.gr.2.2 _ hIlt]; exact bI, by rw [f1.gr.2.2 _ hClt]; exact bC, hwl, by rw [← hrest]; exact h2⟩
          unfold f64_l1
          clear hch h1 hgo
          generalize ((k + 1 : Nat) : Int) = K1 at *
          generalize ((n + 1 : Nat) : Int) = N1 at *
          generalize ((l.length : Nat) : Int) = L at *
          generalize ((k : Nat) : Int) = K at *
          generalize ((n : Nat) : Int) = NN at *
          generalize ((a : Nat) : Int) = A at *
          simp only [Nat.add_assoc, Nat.reduceAdd] at e1
          generalize R (d + 2) = r at *
          rcases hch' with hc | ⟨hc, ha⟩
          · simp [hll, c0, hc, gtt, w2, pc, e1, lz, w1]
          · simp [hll, c0, hc, ha, w2, pc, e1, lz, w1]
        · have hlp : (0 : Int) < (((wordsOf ((l.take k).drop a)).length : Nat) : Int) := by
            have := List.length_pos_iff.2 hws
            omega
          obtain ⟨b, u2, e2', hm⟩ := rline_run (cap := .known 6) (i := I0) (c := C0) d f1.gr.wf (p := p) (was := was) (by rw [f1.gr.2.2 _ hIlt]; exact bI) (by rw [f1.gr.2.2 _ hClt]; exact bC) hwl hIC f1.rd (fun b hb => (f1.new b hb).2)
          cases hr : rlineP p was (wordsOf ((l.take k).drop a)) with
          | none =>
            rw [hr] at hm
            obtain ⟨rfl, g2'⟩ := hm
            have h2 : rparseP l = (pol0, 4, ((n + 1 : Nat) : Int)) := by rw [← h1, rgo, if_neg hws, hr]
            have gu := f1.gr.trans g2'
            obtain ⟨u3, s3', l3, wf3, z3', o3⟩ := res6 u2 pol0 (by rw [gu.2.2 _ hRlt]; exact bR)
            right
            refine ⟨.ret (resP (rparseP l)), u3, ?_, (fun v hv => by cases hv), wf3 gu.wf, by rw [z3']; exact Nat.le_trans hsz gu.2.1, (fun b hb => by rw [o3 b (by omega), gu.2.2 b (by omega)]; exact old b hb), .inl rfl⟩
            rw [h2]
            unfold f64_l1
            clear hch h1 hgo hrest
            generalize (((wordsOf ((l.take k).drop a)).length : Nat) : Int) = WL at *
            generalize ((k + 1 : Nat) : Int) = K1 at *
            generalize ((n + 1 : Nat) : Int) = N1 at *
            generalize ((l.length : Nat) : Int) = L at *
            generalize ((k : Nat) : Int) = K at *
            generalize ((n : Nat) : Int) = NN at *
            generalize ((a : Nat) : Int) = A at *
            simp only [Nat.add_assoc, Nat.reduceAdd] at e1
            have ag := agg6
            generalize R (d + 2) = r at *
            rcases hch' with hc | ⟨hc, ha⟩
            · simp [hll, c0, hc, gtt, w2, pc, e1, lo, hlp, e2', ag, s3', l3, rC, rT, retT, allV]
            · simp [hll, c0, hc, ha, w2, pc, e1, lo, hlp, e2', ag, s3', l3, rC, rT, retT, allV]
          | some pw =>
            obtain ⟨p', was'⟩ := pw
            rw [hr] at hm
            obtain ⟨rfl, m1, m2, m3⟩ := hm
            have h2 : rgo p' was' (n + 1) rest = rparseP l := by rw [← h1, rgo, if_neg hws, hr]
            left
            refine ⟨[Z (.str l), Z (.ptr R0 0), Z (.ptr I0 0), Z (.sl C0 0 6 (.known 6)), I .i64 ((k + 1 : Nat) : Int), I .i64 ((n + 1 : Nat) : Int), I .i64 ((k + 1 : Nat) : Int)], u2, q - 1, ?_, hkk, k + 1, k + 1, n + 1, p', was', by omega, Nat.le_refl _, by omega, rfl, m3.1, Nat.le_trans hsz (Nat.le_trans f1.gr.2.1 m3.2.1),
              (fun b hb => by rw [m3.2.2 b (Nat.lt_of_lt_of_le (show b < u.size by omega) f1.gr.2.1) (by omega) (by omega), f1.gr.2.2 b (by omega)]; exact old b hb), by rw [m3.2.2 _ (Nat.lt_of_lt_of_le hRlt f1.gr.2.1) hRI hRC, f1.gr.2.2 _ hRlt]; exact bR, m1, m2, by rw [rlineP_len hr]; exact hwl, by rw [← hrest]; exact h2⟩
            unfold f64_l1
            clear hch h1 hgo hrest
            generalize (((wordsOf ((l.take k).drop a)).length : Nat) : Int) = WL at *
            generalize ((k + 1 : Nat) : Int) = K1 at *
            generalize ((n + 1 : Nat) : Int) = N1 at *
            generalize ((l.length : Nat) : Int) = L at *
            generalize ((k : Nat) : Int) = K at *
            generalize ((n : Nat) : Int) = NN at *
            generalize ((a : Nat) : Int) = A at *
            simp only [Nat.add_assoc, Nat.reduceAdd] at e1
            generalize R (d + 2) = r at *
            rcases hch' with hc | ⟨hc, ha⟩
            · simp [hll, c0, hc, gtt, w2, pc, e1, lo, hlp, e2', w1]
            · simp [hll, c0, hc, ha, w2, pc, e1, lo, hlp, e2', w1]
      by_cases hend : k = l.length
      · have hd : l.drop k = [] := by rw [List.drop_eq_nil_iff]; omega
        rw [hd, linesR] at hgo
        exact line [] hgo (by rw [if_neg (by omega)]) (.inl hend)
      · have hk : k < l.length := by omega
        have hd : l.drop k = l[k] :: l.drop (k + 1) := List.drop_eq_getElem_cons hk
        have ac := at_str (bs := l) (n := ((k : Nat) : Int)) rfl (List.getElem?_eq_getElem hk)
        rw [hd] at hgo
        unfold linesR at hgo
        by_cases h10 : l[k] = 10
        · rw [if_pos h10] at hgo
          rw [h10] at ac
          refine line _ hgo ?_ (.inr ⟨hk, ac⟩)
          rw [if_pos (by omega)]
          have hnil : (l.take (k + 1)).drop (k + 1) = [] := by
            rw [List.drop_eq_nil_iff, List.length_take]
            omega
          rw [hnil]
        · rw [if_neg h10] at hgo
          have tk : (l.take (k + 1)).drop a = (l.take k).drop a ++ [l[k]] := by
            rw [List.take_add_one, List.getElem?_eq_getElem hk, Option.toList_some, List.drop_append_of_le_length (by rw [List.length_take]; omega)]
          have hne : ¬ ((l[k].toNat : Nat) : Int) = 10 := fun h => h10 (UInt8.toNat.inj (by show l[k].toNat = 10; omega))
          have c2 : ((k : Nat) : Int) < ((l.length : Nat) : Int) := by omega
          left
          refine ⟨[Z (.str l), Z (.ptr R0 0), Z (.ptr I0 0), Z (.sl C0 0 6 (.known 6)), I .i64 (a : Nat), I .i64 (n : Nat), I .i64 ((k + 1 : Nat) : Int)], u, q - 1, ?_, by omega, k + 1, a, n, p, was, by omega, by omega, by omega, rfl, wfu, hsz, old, bR, bI, bC, hwl, by rw [if_pos (by omega), tk]; exact hgo⟩
          unfold f64_l1
          clear line
          generalize ((l[k].toNat : Nat) : Int) = CH at *
          generalize ((k + 1 : Nat) : Int) = K1 at *
          generalize ((l.length : Nat) : Int) = L at *
          generalize ((k : Nat) : Int) = K at *
          simp [hll, c0, c2, ac, hne, w1]
    · have c0 : ¬ ((k : Nat) : Int) ≤ ((l.length : Nat) : Int) := by omega
      rw [if_neg hkl] at hgo
      right
      refine ⟨.exit 0 [Z (.ptr R0 0), Z (.ptr I0 0)], u, ?_, (fun v hv => by cases hv), wfu, hsz, old, .inr ⟨p, was, n, rfl, bR, bI, hgo⟩⟩
      unfold f64_l1
      generalize ((l.length : Nat) : Int) = L at *
      generalize ((k : Nat) : Int) = K at *
      simp [hll, c0]) 8192 (l.length + 1) [Z (.str l), Z (.ptr R0 0), Z (.ptr I0 0), Z (.sl C0 0 6 (.known 6)), I .i64 0, I .i64 0, I .i64 0] s5 ⟨0, 0, 0, polD, List.replicate 6 false, by omega, Nat.le_refl _, Nat.le_refl _, rfl, g5.wf, Nat.le_refl _, old5, b5r, b5i, b5c, by simp, by
        rw [if_pos (Nat.zero_le _)]
        show rgo polD _ 0 (linesR l []) = _
        rw [linesR_of]
        rfl⟩ (by omega)
  obtain ⟨wft, szt, oldt, hj⟩ := hj
  have fin : ∀ u' : St, u'.wf → u'.size = τ.size → (∀ b, b ≠ R0 → u'.get b = τ.get b) → Gr s u' := fun u' w z o => ⟨w, by omega, fun b hb => by rw [o b (by omega)]; exact oldt b hb⟩
  simp only [Nat.add_assoc, Nat.reduceAdd] at e2
  rcases hj with rfl | ⟨p, was, n, rfl, bR, bI, hgo⟩
  · refine ⟨τ, ?_, wft, by omega, oldt⟩
    generalize R (d + 2) = r at *
    simp [nw1, e2, nw3, st4, nw5, lp]
  · have ld := load6 bI
    obtain ⟨u6, e6, g6⟩ := rmay_run (d + 1) wft p
    simp only [Nat.add_assoc, Nat.reduceAdd] at e6
    have hR6 : u6.get R0 = some (.cells true (cP pol0)) := by rw [g6.2.2 _ (wft.lt bR)]; exact bR
    have hI6 : u6.get I0 = some (.cells true (cP p)) := by rw [g6.2.2 _ (wft.lt bI)]; exact bI
    have ld6 := load6 hI6
    have gs6 : Gr s u6 := ⟨g6.wf, by have := g6.2.1; omega, fun b hb => by rw [g6.2.2 b (by omega)]; exact oldt b hb⟩
    cases hm : mayP p with
    | true =>
      have hq : rparseP l = (p, 0, 0) := by rw [← hgo, rgo, if_pos hm]
      rw [hm] at e6
      obtain ⟨u7, st7, ld7, w7, z7, o7⟩ := res6 u6 p hR6
      rw [hq]
      refine ⟨u7, ?_, w7 gs6.wf, by rw [z7]; exact gs6.2.1, fun b hb => by rw [o7 b (by omega)]; exact gs6.2.2 b hb⟩
      generalize R (d + 2) = r at *
      simp [nw1, e2, nw3, st4, nw5, lp, ld, e6, ld6, st7, ld7, rC, rT, retT, allV]
    | false =>
      have hq : rparseP l = (pol0, 5, 0) := by rw [← hgo, rgo, if_neg (by rw [hm]; decide)]
      rw [hm] at e6
      obtain ⟨u7, st7, ld7, w7, z7, o7⟩ := res6 u6 pol0 hR6
      rw [hq]
      have ag := agg6
      refine ⟨u7, ?_, w7 gs6.wf, by rw [z7]; exact gs6.2.1, fun b hb => by rw [o7 b (by omega)]; exact gs6.2.2 b hb⟩
      generalize R (d + 2) = r at *
      simp [nw1, e2, nw3, st4, nw5, lp, ld, e6, ag, st7, ld7, rC, rT, retT, allV]
end
end Go.Proofs.YtlhbidbdmdcdeaaGreatDoor

/-
  The document's reader of policies and the program's are one. No conditions but those named in each line.
-/
namespace Go.Proofs.YtlhbidbdmdcdeaaGreatDoor
open Go Go.Abs Go.Abs.F
set_option linter.unusedVariables false

def keyOf (j : Nat) : Bs := if j < 4 then joinB [32] [kKeep, tNames.getD j []] else if j = 4 then kSeal else kSpan
theorem keyOf_inj : ∀ j, j < 6 → ∀ k, k < 6 → keyOf j = keyOf k → j = k := by decide +kernel
theorem tNames_inj : ∀ j, j < 4 → ∀ k, k < 4 → tNames.getD j [] = tNames.getD k [] → j = k := by decide +kernel

structure Seen (was : List Bool) (seen : List Bs) : Prop where
  len : was.length = 6
  at_ : ∀ j, j < 6 → was.getD j false = decide (keyOf j ∈ seen)

theorem Seen.add {was : List Bool} {seen : List Bs} (h : Seen was seen) {j : Nat} (hj : j < 6) : Seen (was.set j true) (seen ++ [keyOf j]) := by
  refine ⟨by rw [List.length_set]; exact h.len, fun k hk => ?_⟩
  have hl := h.len
  by_cases e : k = j
  · subst e
    rw [List.getD_eq_getElem?_getD, List.getElem?_set_self (by omega), decide_eq_true (by simp)]
    rfl
  · rw [List.getD_eq_getElem?_getD, List.getElem?_set_ne (fun h => e h.symm), ← List.getD_eq_getElem?_getD, h.at_ k hk]
    refine decide_eq_decide.2 ?_
    rw [List.mem_append, List.mem_singleton]
    exact ⟨.inl, fun h => h.elim id fun h => absurd (keyOf_inj k hk j hj h) e⟩

theorem rnum_ok {w : Bs} : (0 ≤ rnumV w ↔ numOk w = true) ∧ (numOk w = true → rnumV w = (numV w : Nat)) := by
  unfold rnumV
  cases h : numOk w with
  | true => simp
  | false => simp

theorem rnum_neg {w : Bs} : (rnumV w < 0 ↔ numOk w = false) := by
  unfold rnumV
  cases h : numOk w with
  | true => simp
  | false => simp

theorem age_n (w : Bs) : (0 ≤ (if w = kEver then 0 else rnumV w) ↔ ¬ (numOk w = false ∧ w ≠ kEver)) ∧ (¬ (numOk w = false ∧ w ≠ kEver) → (if w = kEver then 0 else rnumV w) = ((numV w : Nat) : Int)) := by
  have he : numOk kEver = false := by decide
  by_cases h : w = kEver
  · subst h
    rw [if_pos rfl]
    refine ⟨by simp, fun _ => ?_⟩
    unfold numV
    rw [he]
    rfl
  · rw [if_neg h]
    have := rnum_ok (w := w)
    refine ⟨?_, fun hn => this.2 ?_⟩
    · rw [this.1]
      cases hh : numOk w <;> simp [h]
    · cases hh : numOk w with
      | true => rfl
      | false => exact absurd ⟨hh, h⟩ hn

theorem line_eq {p : Pol} {was : List Bool} {seen : List Bs} {ws : List Bs} (h : Seen was seen) :
    match rlineP p was ws with
    | none => lineP p ws = none ∨ joinB [32] ws.dropLast ∈ seen
    | some (p', was') => lineP p ws = some p' ∧ joinB [32] ws.dropLast ∉ seen ∧ Seen was' (seen ++ [joinB [32] ws.dropLast]) := by
  by_cases h3 : ws.length = 3
  · obtain ⟨w0, w1, w2, rfl⟩ : ∃ w0 w1 w2, ws = [w0, w1, w2] := by
      match ws, h3 with
      | [a, b, c], _ => exact ⟨a, b, c, rfl⟩
    by_cases hk : w0 = kKeep
    · subst hk
      have hr : rlineP p was [kKeep, w1, w2] = rkeep p was w1 (if w2 = kEver then 0 else rnumV w2) := by
        unfold rlineP
        rw [if_pos ⟨rfl, rfl⟩]
        rfl
      have hl : lineP p [kKeep, w1, w2] = if ixT w1 tNames 0 < 0 ∨ (numOk w2 = false ∧ w2 ≠ kEver) then none else some (setAge p (ixT w1 tNames 0) (numV w2 : Nat)) := by
        unfold lineP
        rw [if_pos ⟨rfl, rfl⟩]
        rfl
      rw [hr, hl]
      obtain ⟨n0, n1⟩ := age_n w2
      generalize (if w2 = kEver then 0 else rnumV w2) = n at *
      rcases ixT_range w1 tNames 0 with hx | ⟨j, hj, hx, hw⟩
      · have hno : ∀ j, j < 4 → hitAt w1 n was j = false := fun j hj => by
          unfold hitAt
          rw [decide_eq_false, Bool.false_and]
          intro e
          have : w1 ∈ tNames := by
            rw [← e, List.getD_eq_getElem?_getD, List.getElem?_eq_getElem (show j < tNames.length from hj)]
            exact List.getElem_mem _
          have := (ixT_contains w1 tNames 0).2 this
          omega
        unfold rkeep
        rw [find_none hno, hx]
        exact .inl (by rw [if_pos (.inl (by omega))])
      · rw [Nat.zero_add] at hx
        have hj4 : j < 4 := hj
        have hname : tNames.getD j [] = w1 := by rw [List.getD_eq_getElem?_getD, hw]; rfl
        have hkey : joinB [32] [kKeep, w1] = keyOf j := by
          unfold keyOf
          rw [if_pos hj4, hname]
        have hother : ∀ k, k < 4 → k ≠ j → hitAt w1 n was k = false := fun k hk hne => by
          unfold hitAt
          rw [decide_eq_false, Bool.false_and]
          intro e
          exact hne (tNames_inj k hk j hj4 (by rw [e, hname]))
        have hat := h.at_ j (by omega)
        show match rkeep p was w1 n with
          | none => _ ∨ joinB [32] [kKeep, w1] ∈ seen
          | some (p', was') => _ ∧ joinB [32] [kKeep, w1] ∉ seen ∧ Seen was' (seen ++ [joinB [32] [kKeep, w1]])
        rw [hkey, hx]
        unfold rkeep
        by_cases hn : 0 ≤ n
        · have hn' := n0.1 hn
          by_cases hs : keyOf j ∈ seen
          · have : hitAt w1 n was j = false := by
              unfold hitAt
              rw [hat, decide_eq_true hs]
              simp
            rw [find_none (fun k hk => by
              by_cases e : k = j
              · rw [e]; exact this
              · exact hother k hk e)]
            exact .inr hs
          · have : hitAt w1 n was j = true := by
              unfold hitAt
              rw [hat, decide_eq_false hs, decide_eq_true hname, decide_eq_true hn]
              rfl
            rw [find_hit hj4 (fun k hk => hother k (by omega) (by omega)) this]
            refine ⟨?_, hs, h.add (by omega)⟩
            rw [if_neg (fun hh => hh.elim (fun hh => by omega) hn'), n1 hn']
        · have : hitAt w1 n was j = false := by
            unfold hitAt
            rw [decide_eq_false hn]
            simp
          rw [find_none (fun k hk => by
            by_cases e : k = j
            · rw [e]; exact this
            · exact hother k hk e)]
          refine .inl (if_pos (.inr ?_))
          exact Classical.byContradiction fun hh => hn (n0.2 hh)
    · have hr : rlineP p was [w0, w1, w2] = none := by
        unfold rlineP
        rw [if_neg (fun h => hk h.2), if_pos (.inl (by simp))]
      have hl : lineP p [w0, w1, w2] = none := by
        unfold lineP
        rw [if_neg (fun h => hk h.1), if_neg (fun h => by simp at h), if_neg (fun h => by simp at h)]
      rw [hr, hl]
      exact .inl rfl
  · by_cases h2 : ws.length = 2
    · obtain ⟨w0, w1, rfl⟩ : ∃ w0 w1, ws = [w0, w1] := by
        match ws, h2 with
        | [a, b], _ => exact ⟨a, b, rfl⟩
      have hr : rlineP p was [w0, w1] = if rnumV w1 < 0 then none else if w0 = kSeal ∧ was.getD 4 false = false then some ({ p with c := rnumV w1 }, was.set 4 true) else if w0 = kSpan ∧ was.getD 5 false = false then some ({ p with n := rnumV w1 }, was.set 5 true) else none := by
        unfold rlineP
        rw [if_neg (fun h => by simp at h)]
        by_cases hneg : rnumV w1 < 0
        · rw [if_pos (.inr hneg), if_pos hneg]
        · rw [if_neg (fun h => h.elim (fun h => h rfl) hneg), if_neg hneg]
          rfl
      have hl : lineP p [w0, w1] = if w0 = kSeal ∧ numOk w1 = true then some { p with c := (numV w1 : Nat) } else if w0 = kSpan ∧ numOk w1 = true then some { p with n := (numV w1 : Nat) } else none := by
        unfold lineP
        rw [if_neg (fun h => by simp at h)]
        simp
      show match rlineP p was [w0, w1] with
        | none => _ ∨ joinB [32] [w0] ∈ seen
        | some (p', was') => _ ∧ joinB [32] [w0] ∉ seen ∧ Seen was' (seen ++ [joinB [32] [w0]])
      rw [hr, hl]
      have h4 := h.at_ 4 (by omega)
      have h5 := h.at_ 5 (by omega)
      have k4 : keyOf 4 = kSeal := rfl
      have k5 : keyOf 5 = kSpan := rfl
      have j1 : joinB [32] [w0] = w0 := rfl
      rw [j1]
      have hsp : w0 = kSeal → ¬ w0 = kSpan := fun h h' => by rw [h] at h'; exact absurd h' (by decide)
      by_cases hneg : rnumV w1 < 0
      · have hno := rnum_neg.1 hneg
        rw [if_pos hneg]
        exact .inl (by rw [if_neg (fun h => by rw [hno] at h; cases h.2), if_neg (fun h => by rw [hno] at h; cases h.2)])
      · have hok : numOk w1 = true := by
          cases hh : numOk w1 with
          | true => rfl
          | false => exact absurd (rnum_neg.2 hh) hneg
        have hv := rnum_ok.2 hok
        rw [if_neg hneg, hv]
        by_cases hs : w0 = kSeal
        · by_cases hm : kSeal ∈ seen
          · rw [k4, decide_eq_true hm] at h4
            rw [if_neg (fun hh => by rw [h4] at hh; cases hh.2), if_neg (fun hh => hsp hs hh.1)]
            exact .inr (by rw [hs]; exact hm)
          · rw [k4, decide_eq_false hm] at h4
            rw [if_pos ⟨hs, h4⟩]
            refine ⟨by rw [if_pos ⟨hs, hok⟩], by rw [hs]; exact hm, ?_⟩
            rw [hs, ← k4]
            exact h.add (by omega)
        · rw [if_neg (fun hh => hs hh.1)]
          by_cases hp : w0 = kSpan
          · by_cases hm : kSpan ∈ seen
            · rw [k5, decide_eq_true hm] at h5
              rw [if_neg (fun hh => by rw [h5] at hh; cases hh.2)]
              exact .inr (by rw [hp]; exact hm)
            · rw [k5, decide_eq_false hm] at h5
              rw [if_pos ⟨hp, h5⟩]
              refine ⟨by rw [if_neg (fun hh => hs hh.1), if_pos ⟨hp, hok⟩], by rw [hp]; exact hm, ?_⟩
              rw [hp, ← k5]
              exact h.add (by omega)
          · rw [if_neg (fun hh => hp hh.1)]
            exact .inl (by rw [if_neg (fun hh => hs hh.1), if_neg (fun hh => hp hh.1)])
    · have hr : rlineP p was ws = none := by
        unfold rlineP
        rw [if_neg (fun h => h3 h.1), if_pos (.inl h2)]
      have hl : lineP p ws = none := by
        unfold lineP
        rw [if_neg (fun h => h3 h.2), if_neg (fun h => h2 h.2.1), if_neg (fun h => h2 h.2.1)]
      rw [hr, hl]
      exact .inl rfl

theorem rgo_eq : ∀ (ls : List Bs) (p : Pol) (was : List Bool) (seen : List Bs) (k : Nat), Seen was seen → rgo p was k ls = parseGo p seen k ls
  | [], p, was, seen, k, h => rfl
  | x :: r, p, was, seen, k, h => by
    unfold rgo parseGo
    by_cases hw : wordsOf x = []
    · rw [if_pos hw, if_pos hw]
      exact rgo_eq r p was seen (k + 1) h
    · rw [if_neg hw, if_neg hw]
      have hl := line_eq (p := p) (ws := wordsOf x) h
      cases hr : rlineP p was (wordsOf x) with
      | none =>
        rw [hr] at hl
        rcases hl with hl | hl
        · rw [hl]; rfl
        · simp only [if_pos hl]
          split <;> rfl
      | some pw =>
        obtain ⟨p', was'⟩ := pw
        rw [hr] at hl
        obtain ⟨h1, h2, h3⟩ := hl
        rw [h1]
        simp only [if_neg h2]
        exact rgo_eq r p' was' _ (k + 1) h3

/-- Both readers read the same. -/
theorem rparseP_eq (l : Bs) : rparseP l = parseP l := rgo_eq _ _ _ _ _ ⟨rfl, by decide +kernel⟩
end Go.Proofs.YtlhbidbdmdcdeaaGreatDoor

/-
  Numbers' bytes, sums and comparisons of bytes: what the functions compute, in any store. No conditions but those named in each line.
-/
namespace Go.Proofs.YtlhbidbdmdcdeaaGreatDoor
open Go Go.Abs Go.Abs.F
set_option linter.unusedVariables false
section
variable {s t : St} {x y : S} {bs cs : List UInt8}

def vjo (at_ : Nat) : Option (Nat × Nat) → JO
  | some (n, e) => .ret (.tup [.s (.int .u64 n), .s (.int .i64 e), .s (.int .i64 0)])
  | none => .exit 0 [I .i64 at_]

theorem getN_run (r : CallF) (N : Nat) (h : RB s x bs) (hl : bs.length ≤ 100000) {at_ : Nat} (ha : at_ ≤ 100000) (res : Option (Nat × Nat)) (hres : getN bs at_ 10 0 0 = res) :
    loops (f54_l1 r N) 8192 [Z x, I .i64 at_, I .u64 0, I .i64 0] s = some (vjo at_ res, s) := by
  obtain ⟨j, τ, lp, hj, hτ⟩ := loops_inv (f := f54_l1 r N) (fun q v u => ∃ k n : Nat, q + k = 10 ∧ v = [Z x, I .i64 at_, I .u64 n, I .i64 k] ∧ u = s ∧ n < 2 ^ 64 ∧ getN bs at_ q k n = res)
    (fun j u => j = vjo at_ res ∧ u = s) (by
    rintro q v u ⟨k, n, hk, rfl, rfl, hn, hg⟩
    have hll := h.lenB
    cases q with
    | zero =>
      right
      have hk' : k = 10 := by omega
      subst hk'
      have : res = none := by rw [← hg]; rfl
      subst this
      refine ⟨.exit 0 [I .i64 at_], u, ?_, (fun v hv => by cases hv), rfl, rfl⟩
      unfold f54_l1
      simp
    | succ q =>
      have c0 : (k : Int) < 10 := by omega
      have w0 : IntKind.i64.wrap ((at_ : Int) + k) = ((at_ + k : Nat) : Int) := by rw [wrap_in _ (by omega) (by omega)]; omega
      unfold getN at hg
      cases hc : bs[at_ + k]? with
      | none =>
        rw [hc] at hg
        subst hg
        right
        have hle : bs.length ≤ at_ + k := by simpa using hc
        have c1 : (bs.length : Int) ≤ ((at_ + k : Nat) : Int) := by omega
        refine ⟨.exit 0 [I .i64 at_], u, ?_, (fun v hv => by cases hv), rfl, rfl⟩
        unfold f54_l1
        generalize ((at_ + k : Nat) : Int) = A at w0 c1 ⊢
        simp [c0, w0, hll, c1]
      | some c =>
        rw [hc] at hg
        simp only at hg
        have hlt := (List.getElem?_eq_some_iff.1 hc).1
        have c1 : ¬ (bs.length : Int) ≤ ((at_ + k : Nat) : Int) := by omega
        obtain ⟨p, ix, ld⟩ := h.atB (n := ((at_ + k : Nat) : Int)) rfl hc
        have hcb : c.toNat < 256 := c.toNat_lt
        have hand : aBin .and (I .u8 c.toNat) (I .u8 127) = some (I .u8 (c.toNat % 128 : Nat)) := by
          have := and_u8 c.toNat 127 hcb (by decide)
          rw [show (c.toNat &&& 127 : Nat) = c.toNat % 128 from Nat.and_two_pow_sub_one_eq_mod c.toNat 7] at this
          exact this
        have hconv : IntKind.u64.wrap ((c.toNat % 128 : Nat) : Int) = ((c.toNat % 128 : Nat) : Int) := wrap64 _ (by omega)
        have hm7 : IntKind.i64.wrap (7 * (k : Int)) = ((7 * k : Nat) : Int) := by rw [wrap_in _ (by omega) (by omega)]; omega
        have hm8 : IntKind.u64.wrap ((7 * k : Nat) : Int) = ((7 * k : Nat) : Int) := wrap64 _ (by omega)
        have w1 : IntKind.i64.wrap ((k : Int) + 1) = ((k + 1 : Nat) : Int) := by rw [wrap_in _ (by omega) (by omega)]; omega
        have w2 : IntKind.i64.wrap (((at_ + k : Nat) : Int) + 1) = ((at_ + k + 1 : Nat) : Int) := by rw [wrap_in _ (by omega) (by omega)]; omega
        by_cases h9 : k = 9 ∧ 1 < c.toNat
        · rw [if_pos h9] at hg
          subst hg
          right
          have d9 : ((k : Int) = 9) = True := eq_true (by omega)
          have d1 : ((1 : Int) < (c.toNat : Int)) = True := eq_true (by omega)
          refine ⟨.exit 0 [I .i64 at_], u, ?_, (fun v hv => by cases hv), rfl, rfl⟩
          unfold f54_l1
          generalize ((at_ + k : Nat) : Int) = A at w0 c1 ix ⊢
          generalize (k : Int) = K at *
          generalize (c.toNat : Int) = C at *
          simp [c0, w0, hll, c1, ix, ld, d9, d1]
        · rw [if_neg h9] at hg
          have hpow : c.toNat % 128 * 2 ^ (7 * k) < 2 ^ 64 := by
            by_cases e9 : k = 9
            · subst e9
              have : c.toNat % 128 ≤ 1 := by omega
              calc c.toNat % 128 * 2 ^ (7 * 9) ≤ 1 * 2 ^ 63 := Nat.mul_le_mul_right _ this
                _ < 2 ^ 64 := by decide
            · have hk8 : 7 * k ≤ 56 := by omega
              have h128 : c.toNat % 128 < 2 ^ 7 := by omega
              calc c.toNat % 128 * 2 ^ (7 * k) ≤ c.toNat % 128 * 2 ^ 56 := Nat.mul_le_mul_left _ (Nat.pow_le_pow_right (by omega) hk8)
                _ < 2 ^ 64 := by omega
          have hshl := shl_u64 (c.toNat % 128) (7 * k) hpow (by omega)
          have hor := or_u64 n (c.toNat % 128 * 2 ^ (7 * k)) hn hpow
          have hn' : (n ||| c.toNat % 128 * 2 ^ (7 * k)) < 2 ^ 64 := Nat.or_lt_two_pow hn hpow
          obtain ⟨M, hM⟩ : ∃ M, M = (n ||| c.toNat % 128 * 2 ^ (7 * k)) := ⟨_, rfl⟩
          rw [← hM] at hor hn' hg
          have hcase : ((k : Int) = 9) = False ∨ (((k : Int) = 9) = True ∧ ((1 : Int) < (c.toNat : Int)) = False) := by
            by_cases e9 : k = 9
            · exact .inr ⟨eq_true (by omega), eq_false (fun h => h9 ⟨e9, by omega⟩)⟩
            · exact .inl (eq_false (by omega))
          by_cases h128 : 128 ≤ c.toNat
          · rw [if_pos h128] at hg
            left
            have d1 : ((128 : Int) ≤ (c.toNat : Int)) = True := eq_true (by omega)
            refine ⟨[Z x, I .i64 at_, I .u64 M, I .i64 ((k + 1 : Nat) : Int)], u, q, ?_, rfl, k + 1, M, by omega, rfl, rfl, hn', hg⟩
            generalize ((k + 1 : Nat) : Int) = K1 at w1 ⊢
            unfold f54_l1
            generalize ((c.toNat % 128 * 2 ^ (7 * k) : Nat) : Int) = SH at hshl hor
            generalize ((c.toNat % 128 : Nat) : Int) = L at hand hconv hshl
            generalize ((7 * k : Nat) : Int) = K7 at hm7 hm8 hshl
            generalize ((at_ + k : Nat) : Int) = A at w0 c1 ix
            generalize (k : Int) = K at *
            generalize (c.toNat : Int) = C at *
            rcases hcase with e9 | ⟨e9, e1⟩
            · simp [c0, w0, hll, c1, ix, ld, e9, hand, hconv, hm7, hm8, hshl, hor, d1, w1]
            · simp [c0, w0, hll, c1, ix, ld, e9, e1, hand, hconv, hm7, hm8, hshl, hor, d1, w1]
          · rw [if_neg h128] at hg
            right
            have d1 : ((128 : Int) ≤ (c.toNat : Int)) = False := eq_false (by omega)
            by_cases hz : 0 < k ∧ c.toNat = 0
            · rw [if_pos hz] at hg
              subst hg
              have d2 : ((0 : Int) < (k : Int)) = True := eq_true (by omega)
              have d3 : ((c.toNat : Int) = 0) = True := eq_true (by omega)
              refine ⟨.exit 0 [I .i64 at_], u, ?_, (fun v hv => by cases hv), rfl, rfl⟩
              unfold f54_l1
              generalize ((c.toNat % 128 * 2 ^ (7 * k) : Nat) : Int) = SH at hshl hor
              generalize ((c.toNat % 128 : Nat) : Int) = L at hand hconv hshl
              generalize ((7 * k : Nat) : Int) = K7 at hm7 hm8 hshl
              generalize ((at_ + k : Nat) : Int) = A at w0 c1 ix
              generalize (k : Int) = K at *
              generalize (c.toNat : Int) = C at *
              rcases hcase with e9 | ⟨e9, e1⟩
              · simp [c0, w0, hll, c1, ix, ld, e9, hand, hconv, hm7, hm8, hshl, hor, d1, d2, d3]
              · simp [c0, w0, hll, c1, ix, ld, e9, e1, hand, hconv, hm7, hm8, hshl, hor, d1, d2, d3]
            · rw [if_neg hz] at hg
              subst hg
              refine ⟨.ret (.tup [.s (.int .u64 M), .s (.int .i64 ((at_ + k + 1 : Nat) : Int)), .s (.int .i64 0)]), u, ?_, (fun v hv => by cases hv), rfl, rfl⟩
              have hcase2 : ((0 : Int) < (k : Int)) = False ∨ (((0 : Int) < (k : Int)) = True ∧ ((c.toNat : Int) = 0) = False) := by
                by_cases e0 : 0 < k
                · exact .inr ⟨eq_true (by omega), eq_false (fun h => hz ⟨e0, by omega⟩)⟩
                · exact .inl (eq_false (by omega))
              unfold f54_l1
              generalize ((c.toNat % 128 * 2 ^ (7 * k) : Nat) : Int) = SH at hshl hor
              generalize ((c.toNat % 128 : Nat) : Int) = L at hand hconv hshl
              generalize ((7 * k : Nat) : Int) = K7 at hm7 hm8 hshl
              generalize ((at_ + k + 1 : Nat) : Int) = A1 at w2 ⊢
              generalize ((at_ + k : Nat) : Int) = A at w0 w2 c1 ix
              generalize (k : Int) = K at *
              generalize (c.toNat : Int) = C at *
              rcases hcase with e9 | ⟨e9, e1⟩ <;> rcases hcase2 with d2 | ⟨d2, d3⟩
              · simp [c0, w0, hll, c1, ix, ld, e9, hand, hconv, hm7, hm8, hshl, hor, d1, d2, w2, retT, allV]
              · simp [c0, w0, hll, c1, ix, ld, e9, hand, hconv, hm7, hm8, hshl, hor, d1, d2, d3, w2, retT, allV]
              · simp [c0, w0, hll, c1, ix, ld, e9, e1, hand, hconv, hm7, hm8, hshl, hor, d1, d2, w2, retT, allV]
              · simp [c0, w0, hll, c1, ix, ld, e9, e1, hand, hconv, hm7, hm8, hshl, hor, d1, d2, d3, w2, retT, allV]) 8192 10 [Z x, I .i64 at_, I .u64 0, I .i64 0] s ⟨0, 0, rfl, rfl, rfl, by decide, hres⟩ (by omega)
  subst hτ
  subst hj
  exact lp

def vres (at_ len : Nat) : Option (Nat × Nat) → T
  | some (n, e) => .tup [.s (.int .u64 n), .s (.int .i64 e), .s (.int .i64 0)]
  | none => .tup [.s (.int .u64 0), .s (.int .i64 at_), .s (.int .i64 (if at_ ≤ len then 2 else 1))]

theorem vget_run (d : Nat) (h : RB s x bs) (hl : bs.length ≤ 100000) {at_ : Nat} (ha : at_ ≤ 100000) : R (d + 1) 54 [Z x, I .i64 at_] s = some (vres at_ bs.length (vget bs at_), s) := by
  rw [f54_run]
  unfold f54
  have hll := h.lenB
  have c0 : ¬ (at_ : Int) < 0 := by omega
  by_cases hle : at_ ≤ bs.length
  · have c1 : ¬ (bs.length : Int) < (at_ : Int) := by omega
    have lp := getN_run (R d) 8192 h hl ha _ rfl
    unfold vget
    rw [if_pos hle]
    cases hg : getN bs at_ 10 0 0 with
    | none =>
      rw [hg] at lp
      simp [c0, c1, hll, lp, vjo, vres, hle, retT, allV]
    | some p =>
      obtain ⟨n, e⟩ := p
      rw [hg] at lp
      simp [c0, c1, hll, lp, vjo, vres]
  · have c1 : (bs.length : Int) < (at_ : Int) := by omega
    unfold vget
    rw [if_neg hle]
    simp [c0, c1, hll, vres, hle, retT, allV]

/-- A sum of bytes. -/
theorem sum_run (d : Nat) (h : RB s x bs) (hl : bs.length ≤ 8000) : R (d + 2) 69 [Z x] s = some (I .u32 (sumB 1 bs), s) := by
  have key : R (d + 1) 68 [I .u32 1, Z x] s = some (I .u32 (sumB 1 bs), s) := by
    rw [f68_run]
    unfold f68
    have hll := h.lenB
    obtain ⟨j, τ, lp, hj, hτ⟩ := loops_inv (f := f68_l1 (R d) 8192) (fun q v u => ∃ k n : Nat, q + k = bs.length ∧ v = [I .u64 n, Z x, I .i64 bs.length, I .i64 k] ∧ u = s ∧ n < 4294967291 ∧ sumB n (bs.drop k) = sumB 1 bs)
      (fun j u => j = .exit 0 [I .u64 (sumB 1 bs)] ∧ u = s) (by
      rintro q v u ⟨k, n, hk, rfl, rfl, hn, hg⟩
      by_cases hkl : k < bs.length
      · left
        have hc : bs[k]? = some bs[k] := List.getElem?_eq_getElem hkl
        have hd : bs.drop k = bs[k] :: bs.drop (k + 1) := List.drop_eq_getElem_cons hkl
        rw [hd] at hg
        obtain ⟨p, ix, ld⟩ := h.atB (n := (k : Int)) rfl hc
        have hcb : bs[k].toNat < 256 := bs[k].toNat_lt
        obtain ⟨A1, A2, A3, A4, hA4, m1, m2, m3, m4⟩ : ∃ A1 A2 A3 A4 : Int, A4 = (((n * 257 + bs[k].toNat + 1) % 4294967291 : Nat) : Int) ∧ aBin .mul (I .u64 n) (I .u64 257) = some (I .u64 A1) ∧ aBin .add (I .u64 A1) (I .u64 bs[k].toNat) = some (I .u64 A2) ∧
            aBin .add (I .u64 A2) (I .u64 1) = some (I .u64 A3) ∧ aBin .rem (I .u64 A3) (I .u64 4294967291) = some (I .u64 A4) := ⟨_, _, _, _, rfl, More.step n bs[k].toNat hn hcb u⟩
        have hw : IntKind.u64.wrap (bs[k].toNat : Int) = (bs[k].toNat : Int) := wrap64 _ (by omega)
        have w1 : IntKind.i64.wrap ((k : Int) + 1) = ((k + 1 : Nat) : Int) := by rw [wrap_in _ (by omega) (by omega)]; omega
        have c0 : ((k : Int) < (bs.length : Int)) = True := eq_true (by omega)
        refine ⟨[I .u64 (((n * 257 + bs[k].toNat + 1) % 4294967291 : Nat)), Z x, I .i64 bs.length, I .i64 ((k + 1 : Nat) : Int)], u, q - 1, ?_, by omega, k + 1, _, by omega, rfl, rfl, Nat.mod_lt _ (by decide), hg⟩
        unfold f68_l1
        generalize ((k + 1 : Nat) : Int) = K1 at w1 ⊢
        rw [← hA4]
        generalize (bs[k].toNat : Int) = C at m2 ld hw
        generalize (k : Int) = K at w1 ix c0 ⊢
        simp only [jn_normal, bd_some, List.getD_cons_zero, List.getD_cons_succ, lss_int, br_true, decide_true, c0, ix, ld, m1, m2, m3, m4, aConv_int, hw, add_int, w1]
      · right
        have hk' : k = bs.length := by omega
        have c0 : ¬ ((k : Int) < (bs.length : Int)) := by omega
        have hg' : n = sumB 1 bs := by
          rw [List.drop_eq_nil_of_le (by omega)] at hg
          exact hg
        refine ⟨.exit 0 [I .u64 (sumB 1 bs)], u, ?_, (fun v hv => by cases hv), rfl, rfl⟩
        unfold f68_l1
        rw [hg']
        simp [c0]) 8192 bs.length [I .u64 1, Z x, I .i64 bs.length, I .i64 0] s ⟨0, 1, rfl, rfl, rfl, by decide, rfl⟩ (by omega)
    subst hj; subst hτ
    have hlt := sumB_lt bs 1 (by decide)
    have h32 : IntKind.u32.wrap (sumB 1 bs : Int) = (sumB 1 bs : Int) := by rw [wrap32, Nat.mod_eq_of_lt (by omega)]
    have e1 : aConv .u64 (I .u32 1) = some (I .u64 1) := rfl
    have e2 : aBin .rem (I .u64 1) (I .u64 4294967291) = some (I .u64 1) := rfl
    simp [e1, e2, hll, lp, h32]
  rw [f69_run]
  unfold f69
  simp [key]

/-- Two slices of bytes are compared. -/
theorem equal_run (d : Nat) (h : RB s x bs) (k : RB s y cs) (hl : bs.length ≤ 8000) : R (d + 1) 70 [Z x, Z y] s = some (B (decide (bs = cs)), s) := by
  rw [f70_run]
  unfold f70
  have hll := h.lenB
  have kll := k.lenB
  by_cases hle : bs.length = cs.length
  · have e0 : ((bs.length : Int) = (cs.length : Int)) = True := eq_true (by omega)
    obtain ⟨j, τ, lp, hj, hτ⟩ := loops_inv (f := f70_l1 (R d) 8192) (fun q v u => ∃ i : Nat, q + i = bs.length ∧ v = [Z x, Z y, I .i64 bs.length, I .i64 i] ∧ u = s ∧ bs.take i = cs.take i)
      (fun j u => (j = .exit 0 [] ∧ bs = cs ∨ j = .ret (B false) ∧ bs ≠ cs) ∧ u = s) (by
      rintro q v u ⟨i, hi, rfl, rfl, hg⟩
      by_cases hil : i < bs.length
      · have hb : bs[i]? = some bs[i] := List.getElem?_eq_getElem hil
        have hc : cs[i]? = some (cs[i]'(by omega)) := List.getElem?_eq_getElem (by omega)
        obtain ⟨p, ix, ld⟩ := h.atB (n := (i : Int)) rfl hb
        obtain ⟨p', ix', ld'⟩ := k.atB (n := (i : Int)) rfl hc
        have w1 : IntKind.i64.wrap ((i : Int) + 1) = ((i + 1 : Nat) : Int) := by rw [wrap_in _ (by omega) (by omega)]; omega
        have c0 : ((i : Int) < (bs.length : Int)) = True := eq_true (by omega)
        by_cases he : bs[i] = cs[i]'(by omega)
        · left
          refine ⟨[Z x, Z y, I .i64 bs.length, I .i64 ((i + 1 : Nat) : Int)], u, q - 1, ?_, by omega, i + 1, by omega, rfl, rfl, ?_⟩
          · unfold f70_l1
            rw [← he] at ld'
            generalize ((i + 1 : Nat) : Int) = K1 at w1 ⊢
            generalize (i : Int) = K at *
            simp [c0, ix, ix', ld, ld', w1]
          · rw [List.take_add_one, List.take_add_one, hg, hb, hc, he]
        · right
          have hne : ¬ ((bs[i].toNat : Int) = ((cs[i]'(by omega)).toNat : Int)) := fun e => he (UInt8.toNat.inj (by omega))
          refine ⟨.ret (B false), u, ?_, (fun v hv => by cases hv), .inr ⟨rfl, fun e => he (by simp [e])⟩, rfl⟩
          unfold f70_l1
          generalize (bs[i].toNat : Int) = X1 at *
          generalize ((cs[i]'(by omega)).toNat : Int) = X2 at *
          generalize (i : Int) = K at *
          simp [c0, ix, ix', ld, ld', hne]
      · right
        have c0 : ¬ ((i : Int) < (bs.length : Int)) := by omega
        refine ⟨.exit 0 [], u, ?_, (fun v hv => by cases hv), .inl ⟨rfl, ?_⟩, rfl⟩
        · unfold f70_l1
          simp [c0]
        · rwa [List.take_of_length_le (by omega), List.take_of_length_le (by omega)] at hg) 8192 bs.length [Z x, Z y, I .i64 bs.length, I .i64 0] s ⟨0, rfl, rfl, rfl, by simp⟩ (by omega)
    subst hτ
    rcases hj with ⟨rfl, he⟩ | ⟨rfl, he⟩
    · subst he
      simp [hll, kll, lp]
    · simp [hll, kll, e0, lp, he]
  · have e0 : ¬ ((bs.length : Int) = (cs.length : Int)) := by omega
    have hne : bs ≠ cs := fun e => hle (by rw [e])
    simp [hll, kll, e0, hne]
theorem vput_loop (r : CallF) (wf : s.wf) (n : Nat) (hn : n < 2 ^ 64) : ∃ (m : Nat) (x : S) (acc : List UInt8) (τ : St), loops (f52_l1 r 8192) 8192 [I .u64 n, Z .nils] s = some (.exit 0 [I .u64 m, Z x], τ) ∧ FB s τ x acc ∧ m < 128 ∧ acc ++ [UInt8.ofNat m] = vput n ∧ acc.length ≤ 10 := by
  obtain ⟨j, τ, lp, m, x, acc, rfl, hF, hm, hacc⟩ := loops_inv (f := f52_l1 r 8192) (fun q v u => ∃ (m : Nat) (x : S) (acc : List UInt8), v = [I .u64 m, Z x] ∧ FB s u x acc ∧ m < 2 ^ (64 - 7 * (10 - q)) ∧ q ≤ 10 ∧ acc.length = 10 - q ∧ acc ++ putN q m = vput n)
      (fun j u => ∃ (m : Nat) (x : S) (acc : List UInt8), j = .exit 0 [I .u64 m, Z x] ∧ FB s u x acc ∧ m < 128 ∧ acc ++ [UInt8.ofNat m] = vput n ∧ acc.length ≤ 10) (by
    rintro q v u ⟨m, x, acc, rfl, hF, hm, hq, hal, hacc⟩
    have hm64 : m < 2 ^ 64 := Nat.lt_of_lt_of_le hm (Nat.pow_le_pow_right (by omega) (by omega))
    by_cases h128 : 128 ≤ m
    · cases q with
      | zero =>
        exfalso
        have : 64 - 7 * (10 - 0) = 0 := by decide
        rw [this] at hm
        omega
      | succ q =>
        left
        have hor : aBin .or (I .u8 ((m % 256 : Nat))) (I .u8 128) = some (I .u8 ((UInt8.ofNat (m % 128 + 128)).toNat)) := by
          have h1 := or_u8 (m % 256) 128 (by omega) (by omega)
          rw [or128 _ (by omega)] at h1
          have e1 : (UInt8.ofNat (m % 128 + 128)).toNat = m % 256 % 128 + 128 := by rw [byte_nat]; omega
          rw [e1]
          exact h1
        have hw := wrap8 m
        have hshr : aBin .shr (I .u64 m) (I .u64 7) = some (I .u64 ((m / 2 ^ 7 : Nat))) := shr_nat .u64 m 7 (by decide)
        have c0 : ((128 : Int) ≤ (m : Int)) = True := eq_true (by omega)
        have nw := lit1 u (UInt8.ofNat (m % 128 + 128)).toNat
        obtain ⟨x', t, ap, hF', hz, _⟩ := FB.lit hF (cs := [UInt8.ofNat (m % 128 + 128)]) (by simp; omega)
        unfold putN at hacc
        rw [if_pos h128] at hacc
        refine ⟨[I .u64 ((m / 2 ^ 7 : Nat)), Z x'], t, q, ?_, rfl, m / 2 ^ 7, x', acc ++ [UInt8.ofNat (m % 128 + 128)], rfl, hF', ?_, by omega, by simp; omega, by rw [List.append_assoc]; exact hacc⟩
        · unfold f52_l1
          simp only [U, List.map_cons, List.map_nil, List.length_cons, List.length_nil, Nat.zero_add] at ap
          generalize ((m / 2 ^ 7 : Nat) : Int) = M7 at hshr ⊢
          generalize ((m % 256 : Nat) : Int) = M8 at hw hor
          generalize ((UInt8.ofNat (m % 128 + 128)).toNat : Int) = B8 at hor nw ap
          generalize (m : Int) = M at *
          simp [c0, hw, hor, nw, ap, hshr]
        · have hq0 : q ≠ 0 := fun e => by
            subst e
            have : 64 - 7 * (10 - (0 + 1)) = 1 := by decide
            rw [this] at hm
            omega
          have h2 : (2 : Nat) ^ (64 - 7 * (10 - (q + 1))) = 2 ^ (64 - 7 * (10 - q)) * 2 ^ 7 := by
            rw [← Nat.pow_add]
            congr 1
            omega
          rw [h2] at hm
          exact Nat.div_lt_of_lt_mul (by rw [Nat.mul_comm]; exact hm)
    · right
      have c0 : ((128 : Int) ≤ (m : Int)) = False := eq_false (by omega)
      refine ⟨.exit 0 [I .u64 m, Z x], u, ?_, (fun v hv => by cases hv), m, x, acc, rfl, hF, by omega, ?_, by omega⟩
      · unfold f52_l1
        simp [c0]
      · rw [← hacc]
        cases q with
        | zero => rfl
        | succ q => unfold putN; rw [if_neg h128]) 8192 10 [I .u64 n, Z .nils] s ⟨n, .nils, [], rfl, Fr.nil 1 wf, hn, by omega, rfl, rfl⟩ (by omega)
  exact ⟨m, x, acc, τ, lp, hF, hm, hacc⟩

/-- A number's bytes. -/
theorem vput_run (d : Nat) (wf : s.wf) (n : Nat) (hn : n < 2 ^ 64) : ∃ x t, R (d + 1) 52 [I .u64 n] s = some (Z x, t) ∧ FB s t x (vput n) := by
  rw [f52_run]
  unfold f52
  obtain ⟨m, x, acc, τ, lp, hF, hm, hacc⟩ := vput_loop (R d) wf n hn
  have nw := lit1 τ m
  have hb : (UInt8.ofNat m).toNat = m := by rw [byte_nat]; omega
  obtain ⟨x', t, ap, hF', _⟩ := FB.lit hF (cs := [UInt8.ofNat m]) (by simp; omega)
  rw [hacc.1] at hF'
  refine ⟨x', t, ?_, hF'⟩
  have hw : IntKind.u8.wrap (m : Int) = (m : Int) := by rw [wrap8]; omega
  simp only [U, List.map_cons, List.map_nil, List.length_cons, List.length_nil, Nat.zero_add, hb] at ap
  simp [lp, hw, nw, ap]
end
end Go.Proofs.YtlhbidbdmdcdeaaGreatDoor

/-
  Entries: what entry.May, Put and Same compute, in any store. No conditions but those named in each line.
-/
namespace Go.Proofs.YtlhbidbdmdcdeaaGreatDoor
open Go Go.Abs Go.Abs.F
set_option linter.unusedVariables false

structure Ent where
  k : Int
  v : Int
  i : Int
  t : Int
  f : Int
  o : Int
  u : Int
  x : Bs
  deriving DecidableEq

def cE (e : Ent) : List S := [.int .i64 e.k, .int .i64 e.v, .int .i64 e.i, .int .i64 e.t, .int .i64 e.f, .int .i64 e.o, .int .u32 e.u, .str e.x]
abbrev AE (e : Ent) : T := .v (.agg (cE e))
def ent0 : Ent := ⟨0, 0, 0, 0, 0, 0, 0, []⟩
theorem cE_len (e : Ent) : (cE e).length = 8 := rfl

def idOk (n : Int) : Bool := decide (1 ≤ n) && decide (n ≤ 1073741824)
def mayE (e : Ent) : Bool :=
  if e.v < 0 ∨ 1073741824 < e.v then false
  else if e.k = 1 then decide (e.x = []) && idOk e.i && decide (0 ≤ e.t) && decide (e.t < 4) && decide (0 ≤ e.f) && decide (e.f < e.o) && decide (e.o ≤ 1099511627776)
  else if e.k = 2 then idOk e.i && decide (e = { ent0 with k := 2, v := e.v, i := e.i })
  else if e.k = 3 then decide (0 < e.v) && decide (e = { ent0 with k := 3, v := e.v })
  else if e.k = 4 then decide (e.x.length ≤ 300) && decide (e = { ent0 with k := 4, v := e.v, x := e.x }) && decide ((parseP e.x).2.1 = 0)
  else false

section
variable {s t : St} {x y : S} {l : Bs} {i : Nat}

theorem eqE (a b : Ent) : aEq (.a 8 [(0, .i), (1, .i), (2, .i), (3, .i), (4, .i), (5, .i), (6, .i), (7, .s)]) (AE a) (AE b) = some (decide (a = b)) := by
  obtain ⟨a1, a2, a3, a4, a5, a6, a7, a8⟩ := a
  obtain ⟨b1, b2, b3, b4, b5, b6, b7, b8⟩ := b
  show some (decide (a1 = b1) && (decide (a2 = b2) && (decide (a3 = b3) && (decide (a4 = b4) && (decide (a5 = b5) && (decide (a6 = b6) && (decide (a7 = b7) && (decide (a8 = b8) && true)))))))) = some (decide (Ent.mk a1 a2 a3 a4 a5 a6 a7 a8 = Ent.mk b1 b2 b3 b4 b5 b6 b7 b8))
  simp only [Ent.mk.injEq, Bool.and_true, Bool.decide_and]

theorem eqBE (a b : Ent) : eqB (.a 8 [(0, .i), (1, .i), (2, .i), (3, .i), (4, .i), (5, .i), (6, .i), (7, .s)]) (AE a) (AE b) = some (B (decide (a = b))) := by
  simp only [eqB, eqE]
theorem neBE (a b : Ent) : neB (.a 8 [(0, .i), (1, .i), (2, .i), (3, .i), (4, .i), (5, .i), (6, .i), (7, .s)]) (AE a) (AE b) = some (B (!decide (a = b))) := by
  simp only [neB, eqE]

theorem load8 {i : Nat} {w : Bool} {e : Ent} {g : Mem} (h : g i = some (.cells w (cE e))) : aLoadN 8 (Z (.ptr i 0)) g = some (AE e) := by
  simp [aLoadN, h, cE]
theorem store8 {i : Nat} {vs : List S} {e : Ent} (h : s.get i = some (.cells true vs)) (hv : vs.length = 8) : aStore 8 (Z (.ptr i 0)) (AE e) s = some (tt, s.set i (.cells true (cE e))) := by
  have hb : (V.agg (cE e)).cells.length = 8 ∧ 0 + 8 ≤ vs.length := ⟨rfl, by omega⟩
  simp only [aStore, h, if_pos hb]
  rw [show (V.agg (cE e)).cells = cE e from rfl, setRange_all (by rw [hv]; rfl)]
theorem agg8 : asAggT (aFill [.int .i64 0, .int .i64 0, .int .i64 0, .int .i64 0, .int .i64 0, .int .i64 0, .int .u32 0, .str []] []) = some (AE ent0) := rfl

theorem same_run (d : Nat) (wf : s.wf) (a b : Ent) : ∃ t, R (d + 1) 39 [AE a, AE b] s = some (B (decide (a = b)), t) ∧ Gr s t := by
  rw [f39_run]
  unfold f39
  obtain ⟨s1, hs1⟩ : ∃ s1, s1 = s.push (.cells true (cE a)) := ⟨_, rfl⟩
  have nw1 : aNew s (nBox (AE a)) = some (Z (.ptr s.size 0), s1) := by rw [hs1]; rfl
  have g1 : Gr s s1 := by rw [hs1]; exact Gr.push wf _
  have h1 : s1.get s.size = some (.cells true (cE a)) := by rw [hs1]; exact St.get_push_same _ _
  obtain ⟨s2, hs2⟩ : ∃ s2, s2 = s1.push (.cells true (cE b)) := ⟨_, rfl⟩
  have nw2 : aNew s1 (nBox (AE b)) = some (Z (.ptr s1.size 0), s2) := by rw [hs2]; rfl
  have g2 : Gr s1 s2 := by rw [hs2]; exact Gr.push g1.wf _
  have h2 : s2.get s1.size = some (.cells true (cE b)) := by rw [hs2]; exact St.get_push_same _ _
  have l1 := load8 (g := s2.get) (g2.get h1 g1.wf)
  have l2 := load8 (g := s2.get) h2
  have e := eqBE a b
  exact ⟨s2, by simp [nw1, nw2, l1, l2, e], g1.trans g2⟩

theorem id_run (d : Nat) (n : Int) : R (d + 1) 50 [I .i64 n] s = some (B (idOk n), s) := by
  rw [f50_run]
  unfold f50
  by_cases h : 1 ≤ n
  · simp [idOk, h]
  · simp [idOk, h]

theorem mayE_run (d : Nat) (wf : s.wf) (e : Ent) : ∃ t, R (d + 8) 30 [AE e] s = some (B (mayE e), t) ∧ Gr s t := by
  rw [f30_run]
  unfold f30
  obtain ⟨s1, hs1⟩ : ∃ s1, s1 = s.push (.cells true (cE e)) := ⟨_, rfl⟩
  have nw1 : aNew s (nBox (AE e)) = some (Z (.ptr s.size 0), s1) := by rw [hs1]; rfl
  have g1 : Gr s s1 := by rw [hs1]; exact Gr.push wf _
  have h1 : s1.get s.size = some (.cells true (cE e)) := by rw [hs1]; exact St.get_push_same _ _
  have l0 : aLoad1 (Z (.ptr s.size 0)) s1.get = some (I .i64 e.k) := aLoad1_of h1 rfl
  have l1 : aLoad1 (Z (.ptr s.size 1)) s1.get = some (I .i64 e.v) := aLoad1_of h1 rfl
  have l2 : aLoad1 (Z (.ptr s.size 2)) s1.get = some (I .i64 e.i) := aLoad1_of h1 rfl
  have l3 : aLoad1 (Z (.ptr s.size 3)) s1.get = some (I .i64 e.t) := aLoad1_of h1 rfl
  have l4 : aLoad1 (Z (.ptr s.size 4)) s1.get = some (I .i64 e.f) := aLoad1_of h1 rfl
  have l5 : aLoad1 (Z (.ptr s.size 5)) s1.get = some (I .i64 e.o) := aLoad1_of h1 rfl
  have l7 : aLoad1 (Z (.ptr s.size 7)) s1.get = some (Z (.str e.x)) := aLoad1_of h1 rfl
  have l8 := load8 (g := s1.get) h1
  have eid := id_run (s := s1) (d + 6) e.i
  simp only [Nat.add_assoc, Nat.reduceAdd] at eid
  by_cases c1 : e.v < 0
  · refine ⟨s1, ?_, g1⟩
    have hm : mayE e = false := by simp [mayE, c1]
    rw [hm]
    simp [nw1, l1, c1]
  · by_cases c2 : 1073741824 < e.v
    · refine ⟨s1, ?_, g1⟩
      have hm : mayE e = false := by simp [mayE, c2]
      rw [hm]
      simp [nw1, l1, c1, c2]
    · have hv : ¬ (e.v < 0 ∨ 1073741824 < e.v) := fun h => h.elim c1 c2
      by_cases k1 : e.k = 1
      · have hm : mayE e = (decide (e.x = []) && idOk e.i && decide (0 ≤ e.t) && decide (e.t < 4) && decide (0 ≤ e.f) && decide (e.f < e.o) && decide (e.o ≤ 1099511627776)) := by
          unfold mayE; rw [if_neg hv, if_pos k1]
        rw [hm]
        refine ⟨s1, ?_, g1⟩
        by_cases d1 : e.x = []
        · cases d2 : idOk e.i with
          | true =>
            rw [d2] at eid
            by_cases d3 : 0 ≤ e.t
            · by_cases d4 : e.t < 4
              · by_cases d5 : 0 ≤ e.f
                · by_cases d6 : e.f < e.o
                  · simp [nw1, l0, l1, l2, l3, l4, l5, l7, c1, c2, k1, d1, eid, d3, d4, d5, d6]
                  · simp [nw1, l0, l1, l2, l3, l4, l5, l7, c1, c2, k1, d1, eid, d3, d4, d5, d6]
                · simp [nw1, l0, l1, l2, l3, l4, l5, l7, c1, c2, k1, d1, eid, d3, d4, d5]
              · simp [nw1, l0, l1, l2, l3, l4, l5, l7, c1, c2, k1, d1, eid, d3, d4]
            · simp [nw1, l0, l1, l2, l3, l4, l5, l7, c1, c2, k1, d1, eid, d3]
          | false =>
            rw [d2] at eid
            simp [nw1, l0, l1, l2, l3, l4, l5, l7, c1, c2, k1, d1, eid]
        · simp [nw1, l0, l1, l2, l3, l4, l5, l7, c1, c2, k1, d1]
      · by_cases k2 : e.k = 2
        · have hm : mayE e = (idOk e.i && decide (e = { ent0 with k := 2, v := e.v, i := e.i })) := by
            unfold mayE; rw [if_neg hv, if_neg k1, if_pos k2]
          rw [hm]
          refine ⟨s1, ?_, g1⟩
          have ag : asAggT (aFill [.int .i64 0, .int .i64 0, .int .i64 0, .int .i64 0, .int .i64 0, .int .i64 0, .int .u32 0, .str []] [(0, 1, (I .i64 2)), (1, 1, I .i64 e.v), (2, 1, I .i64 e.i)]) = some (AE { ent0 with k := 2, v := e.v, i := e.i }) := rfl
          have eq := eqBE e { ent0 with k := 2, v := e.v, i := e.i }
          generalize hD : decide (e = { ent0 with k := 2, v := e.v, i := e.i }) = D at *
          generalize ({ ent0 with k := 2, v := e.v, i := e.i } : Ent) = e2 at *
          cases d2 : idOk e.i with
          | true =>
            rw [d2] at eid
            simp [nw1, l0, l1, l2, l8, c1, c2, k2, eid, ag, eq]
          | false =>
            rw [d2] at eid
            simp [nw1, l0, l1, l2, l8, c1, c2, k2, eid]
        · by_cases k3 : e.k = 3
          · have hm : mayE e = (decide (0 < e.v) && decide (e = { ent0 with k := 3, v := e.v })) := by
              unfold mayE; rw [if_neg hv, if_neg k1, if_neg k2, if_pos k3]
            rw [hm]
            refine ⟨s1, ?_, g1⟩
            have ag : asAggT (aFill [.int .i64 0, .int .i64 0, .int .i64 0, .int .i64 0, .int .i64 0, .int .i64 0, .int .u32 0, .str []] [(0, 1, (I .i64 3)), (1, 1, I .i64 e.v)]) = some (AE { ent0 with k := 3, v := e.v }) := rfl
            have eq := eqBE e { ent0 with k := 3, v := e.v }
            generalize hD : decide (e = { ent0 with k := 3, v := e.v }) = D at *
            generalize ({ ent0 with k := 3, v := e.v } : Ent) = e2 at *
            by_cases d1 : 0 < e.v
            · simp [nw1, l0, l1, l8, c1, c2, k3, d1, ag, eq]
            · simp [nw1, l0, l1, l8, c1, c2, k3, d1]
          · by_cases k4 : e.k = 4
            · have hm : mayE e = (decide (e.x.length ≤ 300) && decide (e = { ent0 with k := 4, v := e.v, x := e.x }) && decide ((parseP e.x).2.1 = 0)) := by
                unfold mayE; rw [if_neg hv, if_neg k1, if_neg k2, if_neg k3, if_pos k4]
              rw [hm]
              have ag : asAggT (aFill [.int .i64 0, .int .i64 0, .int .i64 0, .int .i64 0, .int .i64 0, .int .i64 0, .int .u32 0, .str []] [(0, 1, (I .i64 4)), (1, 1, I .i64 e.v), (7, 1, Z (.str e.x))]) = some (AE { ent0 with k := 4, v := e.v, x := e.x }) := rfl
              have eq := neBE e { ent0 with k := 4, v := e.v, x := e.x }
              generalize hD : decide (e = { ent0 with k := 4, v := e.v, x := e.x }) = D at *
              generalize ({ ent0 with k := 4, v := e.v, x := e.x } : Ent) = e2 at *
              by_cases d1 : e.x.length ≤ 300
              · have d1' : ¬ (300 : Int) < (e.x.length : Int) := by omega
                cases D with
                | false =>
                  refine ⟨s1, ?_, g1⟩
                  simp [nw1, l0, l1, l7, l8, c1, c2, k4, d1', ag, eq]
                | true =>
                  obtain ⟨s2, e2', g2⟩ := parse_run (l := e.x) d g1.wf (by omega)
                  obtain ⟨s3, hs3⟩ : ∃ s3, s3 = s2.push (.cells true (cP pol0)) := ⟨_, rfl⟩
                  have nw3 : aNew s2 (nCells [.int .i64 0, .int .i64 0, .int .i64 0, .int .i64 0, .int .i64 0, .int .i64 0]) = some (Z (.ptr s2.size 0), s3) := by rw [hs3]; rfl
                  have g3 : Gr s2 s3 := by rw [hs3]; exact Gr.push g2.wf _
                  have st := store6 (p := (parseP e.x).1) (s := s3) (i := s2.size) (vs := cP pol0) (by rw [hs3]; exact St.get_push_same _ _) rfl
                  refine ⟨s3.set s2.size (.cells true (cP (parseP e.x).1)), ?_, g1.trans (g2.trans ⟨St.wf_set g3.wf (by rw [hs3]; simp) _, by simp; exact g3.2.1, fun b hb => by rw [St.get_set_ne _ _ (by omega)]; exact g3.2.2 b hb⟩)⟩
                  generalize R (d + 7) = r at *
                  simp [nw1, l0, l1, l7, l8, c1, c2, k4, d1', d1, ag, eq, e2', aExtract, nw3, st]
              · have d1' : (300 : Int) < (e.x.length : Int) := by omega
                refine ⟨s1, ?_, g1⟩
                simp [nw1, l0, l1, l7, c1, c2, k4, d1', d1]
            · have hm : mayE e = false := by unfold mayE; rw [if_neg hv, if_neg k1, if_neg k2, if_neg k3, if_neg k4]
              rw [hm]
              refine ⟨s1, ?_, g1⟩
              simp [nw1, l0, l1, c1, c2, k1, k2, k3, k4]

/-! ### Put -/

def nums (e : Ent) : List Nat :=
  if e.k = 1 then [e.i.toNat, e.t.toNat, e.f.toNat, e.o.toNat, e.u.toNat] else if e.k = 2 then [e.i.toNat] else if e.k = 4 then [e.x.length] else []
def putNs : List Nat → Bs
  | [] => []
  | n :: r => vput n ++ putNs r
def putB (e : Ent) : Bs := UInt8.ofNat e.k.toNat :: (vput e.v.toNat ++ putNs (nums e) ++ e.x)
def putE (e : Ent) : Option Bs := if mayE e then some (putB e) else none

def u64S (l : List Nat) : List S := l.map fun n : Nat => S.int .u64 ((n : Nat) : Int)
@[simp] theorem u64S_len (l : List Nat) : (u64S l).length = l.length := by simp [u64S]

theorem putNs_len : ∀ l : List Nat, (putNs l).length ≤ 11 * l.length
  | [] => by simp [putNs]
  | n :: r => by have := vput_len n; have := putNs_len r; simp [putNs]; omega
theorem putNs_snoc : ∀ (l : List Nat) (n : Nat), putNs (l ++ [n]) = putNs l ++ vput n
  | [], n => by simp [putNs]
  | m :: r, n => by simp [putNs, putNs_snoc r n]

theorem nums_len (e : Ent) : (nums e).length ≤ 5 := by
  unfold nums
  split
  · simp
  · split
    · simp
    · split <;> simp

theorem nums_loop (d : Nat) {s0 : St} {v0 : T} {acc : Bs} {ns : List Nat} (hb : FB s0 s y acc) (hx : Rd 1 s x ns.length (u64S ns)) (hox : ∀ c, own x = some c → c < s.size ∧ own y ≠ some c ∧ s0.size ≤ c) (hn : ∀ n ∈ ns, n < 2 ^ 64) (hl : ns.length ≤ 5) (ha : acc.length ≤ 1000) :
    ∃ (z : S) (τ : St), loops (f31_l1 (R (d + 1)) 8192) 8192 [v0, Z y, Z x, I .i64 ns.length, I .i64 0] s = some (.exit 1 [v0, Z z], τ) ∧ FB s0 τ z (acc ++ putNs ns) := by
  obtain ⟨j, τ, lp, z, rfl, hf⟩ := loops_inv (f := f31_l1 (R (d + 1)) 8192) (fun q v u => ∃ (k : Nat) (z : S), q + k = ns.length ∧ v = [v0, Z z, Z x, I .i64 ns.length, I .i64 k] ∧ FB s0 u z (acc ++ putNs (ns.take k)) ∧ Rd 1 u x ns.length (u64S ns) ∧ (∀ c, own x = some c → c < u.size ∧ own z ≠ some c))
    (fun j u => ∃ z, j = .exit 1 [v0, Z z] ∧ FB s0 u z (acc ++ putNs ns)) (by
    rintro q v u ⟨k, z, hk, rfl, hf, hr, ho⟩
    by_cases hkl : k < ns.length
    · left
      have hc : ns[k]? = some ns[k] := List.getElem?_eq_getElem hkl
      obtain ⟨p, ix, ld⟩ := Rd.at1 hr (n := ns.length) (i := (k : Int)) (v := .int .u64 (ns[k] : Int)) rfl (by simp [u64S, hc])
      have c0 : (k : Int) < (ns.length : Int) := by omega
      have w1 : IntKind.i64.wrap ((k : Int) + 1) = ((k + 1 : Nat) : Int) := by rw [wrap_in _ (by omega) (by omega)]; omega
      have htk : ns.take (k + 1) = ns.take k ++ [ns[k]] := by rw [List.take_add_one, hc]; rfl
      obtain ⟨p1, u1, e1, f1⟩ := vput_run d hf.gr.wf ns[k] (hn _ (List.getElem_mem hkl))
      have hf1 : FB s0 u1 z (acc ++ putNs (ns.take k)) := hf.gr' f1.gr
      have hpl : (putNs (ns.take k)).length ≤ 55 := by have := putNs_len (ns.take k); rw [List.length_take] at this; omega
      obtain ⟨z2, u2, ap, hf2, hz2, keep2, new2⟩ := FB.app' hf1 f1.rd (by have := vput_len ns[k]; simp; omega)
      have hr2 : Rd 1 u2 x ns.length (u64S ns) := hr.keep fun c hc' => by rw [keep2 c (Nat.lt_of_lt_of_le (ho c hc').1 f1.gr.2.1) (ho c hc').2, f1.gr.2.2 c (ho c hc').1]
      have ho2 : ∀ c, own x = some c → c < u2.size ∧ own z2 ≠ some c := fun c hc' => by
        have h1 := (ho c hc').1
        have h2 := f1.gr.2.1
        refine ⟨by omega, fun e => ?_⟩
        rcases new2 with n | n | ⟨c', n, hc2⟩
        · rw [n] at e; cases e
        · rw [n] at e; exact (ho c hc').2 e
        · rw [n] at e; cases e; omega
      refine ⟨[v0, Z z2, Z x, I .i64 ns.length, I .i64 ((k + 1 : Nat) : Int)], u2, q - 1, ?_, by omega, k + 1, z2, by omega, rfl, by rw [htk, putNs_snoc, ← List.append_assoc]; exact hf2, hr2, ho2⟩
      unfold f31_l1
      generalize R (d + 1) = r at *
      generalize ((k + 1 : Nat) : Int) = K1 at w1 ⊢
      generalize (k : Int) = K at *
      generalize (ns[k] : Int) = NK at *
      generalize (ns.length : Int) = L at *
      simp [c0, ix, ld, e1, ap, w1]
    · right
      have hk' : k = ns.length := by omega
      subst hk'
      rw [List.take_length] at hf
      refine ⟨.exit 1 [v0, Z z], u, ?_, (fun v hv => by cases hv), z, rfl, hf⟩
      unfold f31_l1
      simp) 8192 ns.length [v0, Z y, Z x, I .i64 ns.length, I .i64 0] s ⟨0, y, by omega, rfl, by simpa [putNs] using hb, hx, fun c hc => ⟨(hox c hc).1, (hox c hc).2.1⟩⟩ (by omega)
  exact ⟨z, τ, lp, hf⟩

/-- An entry whose numbers are of their kinds. -/
def EWf (e : Ent) : Prop := 0 ≤ e.u ∧ e.u < 4294967296

theorem mayE_range {e : Ent} (h : mayE e = true) : 0 ≤ e.v ∧ e.v ≤ 1073741824 ∧ 1 ≤ e.k ∧ e.k ≤ 4 ∧ (e.k = 1 → e.x = [] ∧ 1 ≤ e.i ∧ e.i ≤ 1073741824 ∧ 0 ≤ e.t ∧ e.t < 4 ∧ 0 ≤ e.f ∧ e.f < e.o ∧ e.o ≤ 1099511627776) ∧
    (e.k = 2 → 1 ≤ e.i ∧ e.i ≤ 1073741824 ∧ e = { ent0 with k := 2, v := e.v, i := e.i }) ∧ (e.k = 3 → 0 < e.v ∧ e = { ent0 with k := 3, v := e.v }) ∧ (e.k = 4 → e.x.length ≤ 300 ∧ e = { ent0 with k := 4, v := e.v, x := e.x } ∧ (parseP e.x).2.1 = 0) := by
  unfold mayE at h
  split at h
  · cases h
  · rename_i hv
    have hv' : 0 ≤ e.v ∧ e.v ≤ 1073741824 := by omega
    refine ⟨hv'.1, hv'.2, ?_⟩
    by_cases k1 : e.k = 1
    · rw [if_pos k1] at h
      simp only [Bool.and_eq_true, decide_eq_true_eq, idOk] at h
      refine ⟨by omega, by omega, fun _ => ?_, (fun h2 => by omega), (fun h2 => by omega), (fun h2 => by omega)⟩
      obtain ⟨⟨⟨⟨⟨⟨a, b, b'⟩, c⟩, d⟩, f⟩, g⟩, o⟩ := h
      exact ⟨a, b, b', c, d, f, g, o⟩
    · rw [if_neg k1] at h
      by_cases k2 : e.k = 2
      · rw [if_pos k2] at h
        simp only [Bool.and_eq_true, decide_eq_true_eq, idOk] at h
        exact ⟨by omega, by omega, (fun h2 => by omega), fun _ => ⟨h.1.1, h.1.2, h.2⟩, (fun h2 => by omega), (fun h2 => by omega)⟩
      · rw [if_neg k2] at h
        by_cases k3 : e.k = 3
        · rw [if_pos k3] at h
          simp only [Bool.and_eq_true, decide_eq_true_eq] at h
          exact ⟨by omega, by omega, (fun h2 => by omega), (fun h2 => by omega), fun _ => h, (fun h2 => by omega)⟩
        · rw [if_neg k3] at h
          by_cases k4 : e.k = 4
          · rw [if_pos k4] at h
            simp only [Bool.and_eq_true, decide_eq_true_eq] at h
            exact ⟨by omega, by omega, (fun h2 => by omega), (fun h2 => by omega), (fun h2 => by omega), fun _ => ⟨h.1.1, h.1.2, h.2⟩⟩
          · rw [if_neg k4] at h
            cases h

theorem nums_lt {e : Ent} (h : mayE e = true) (hw : EWf e) : ∀ n ∈ nums e, n < 2 ^ 64 := by
  obtain ⟨_, _, _, _, h1, h2, _, h4⟩ := mayE_range h
  have := hw.2
  intro n hn
  unfold nums at hn
  split at hn
  · rename_i k
    have := h1 k
    simp at hn
    rcases hn with rfl | rfl | rfl | rfl | rfl <;> omega
  · split at hn
    · rename_i k
      have := h2 k
      simp at hn
      omega
    · split at hn
      · rename_i k
        have := h4 k
        simp at hn
        omega
      · cases hn

theorem putB_len {e : Ent} (h : e.x.length ≤ 300) : (putB e).length ≤ 400 := by
  have h1 := vput_len e.v.toNat
  have h2 := putNs_len (nums e)
  have h3 := nums_len e
  simp [putB]
  omega
theorem mayE_x {e : Ent} (h : mayE e = true) : e.x.length ≤ 300 := by
  obtain ⟨_, _, k1, k4, h1, h2, h3, h4⟩ := mayE_range h
  by_cases e1 : e.k = 1
  · rw [(h1 e1).1]; simp
  · by_cases e2 : e.k = 2
    · rw [(h2 e2).2.2]; simp [ent0]
    · by_cases e3 : e.k = 3
      · rw [(h3 e3).2]; simp [ent0]
      · exact (h4 (by omega)).1

theorem put_bad (d : Nat) (wf : s.wf) {e : Ent} (h : mayE e = false) : ∃ t, R (d + 9) 31 [AE e] s = some (.tup [.s .nils, .s (.int .i64 1)], t) ∧ Gr s t := by
  rw [f31_run]
  unfold f31
  obtain ⟨s1, hs1⟩ : ∃ s1, s1 = s.push (.cells true (cE e)) := ⟨_, rfl⟩
  have nw1 : aNew s (nBox (AE e)) = some (Z (.ptr s.size 0), s1) := by rw [hs1]; rfl
  have g1 : Gr s s1 := by rw [hs1]; exact Gr.push wf _
  have h1 : s1.get s.size = some (.cells true (cE e)) := by rw [hs1]; exact St.get_push_same _ _
  have l8 := load8 (g := s1.get) h1
  obtain ⟨s2, e2, g2⟩ := mayE_run d g1.wf e
  rw [h] at e2
  exact ⟨s2, by simp [nw1, l8, e2, retT, allV], g1.trans g2⟩

theorem put_run (d : Nat) (wf : s.wf) {e : Ent} (h : mayE e = true) (hw : EWf e) : ∃ y t, R (d + 9) 31 [AE e] s = some (.tup [.s y, .s (.int .i64 0)], t) ∧ FB s t y (putB e) := by
  rw [f31_run]
  unfold f31
  obtain ⟨r1, r2, r3, r4, hk1, hk2, hk3, hk4⟩ := mayE_range h
  obtain ⟨s1, hs1⟩ : ∃ s1, s1 = s.push (.cells true (cE e)) := ⟨_, rfl⟩
  have nw1 : aNew s (nBox (AE e)) = some (Z (.ptr s.size 0), s1) := by rw [hs1]; rfl
  have g1 : Gr s s1 := by rw [hs1]; exact Gr.push wf _
  have h1 : s1.get s.size = some (.cells true (cE e)) := by rw [hs1]; exact St.get_push_same _ _
  have z1 : s1.size = s.size + 1 := by rw [hs1]; rfl
  have l8 := load8 (g := s1.get) h1
  obtain ⟨s2, e2, g2⟩ := mayE_run d g1.wf e
  rw [h] at e2
  have h2 : s2.get s.size = some (.cells true (cE e)) := g2.get h1 g1.wf
  have hz2 : s.size + 1 ≤ s2.size := by have := g2.2.1; omega
  have lk : aLoad1 (Z (.ptr s.size 0)) s2.get = some (I .i64 e.k) := aLoad1_of h2 rfl
  have wk : IntKind.u8.wrap e.k = ((UInt8.ofNat e.k.toNat).toNat : Int) := by
    have := wrap8 e.k.toNat
    rw [show ((e.k.toNat : Nat) : Int) = e.k by omega] at this
    rw [this, byte_nat]
  obtain ⟨kb, hkb⟩ : ∃ kb, kb = UInt8.ofNat e.k.toNat := ⟨_, rfl⟩
  rw [← hkb] at wk
  obtain ⟨s4, hs4⟩ : ∃ s4, s4 = s2.push (.cells true (U [kb])) := ⟨_, rfl⟩
  have nw4 : aNew s2 (nSlice 1 (aFill [.int .u8 0] [(0, 1, I .u8 kb.toNat)])) = some (Z (.sl s2.size 0 1 (.known 1)), s4) := by rw [hs4, lit1]; rfl
  have f4 : FB s2 s4 (.sl s2.size 0 1 (.known 1)) [kb] := by rw [hs4]; exact Fr.lit 1 g2.wf rfl
  have h4 : s4.get s.size = some (.cells true (cE e)) := f4.gr.get h2 g2.wf
  have lv : aLoad1 (Z (.ptr s.size 1)) s4.get = some (I .i64 e.v) := aLoad1_of h4 rfl
  have wv : IntKind.u64.wrap e.v = (e.v.toNat : Int) := by rw [wrap_u64_in _ (by omega) (by omega)]; omega
  obtain ⟨y5, s5, e5, f5⟩ := vput_run (d + 7) f4.gr.wf e.v.toNat (by omega)
  have h5 : s5.get s.size = some (.cells true (cE e)) := f5.gr.get h4 f4.gr.wf
  have lk5 : aLoad1 (Z (.ptr s.size 0)) s5.get = some (I .i64 e.k) := aLoad1_of h5 rfl
  have hov : overlay 8 s5.get (ovO 3 s2.size (nSlice 1 (aFill [.int .u8 0] [(0, 1, I .u8 kb.toNat)])) []) = s5.get := rfl
  have f45 : FB s2 s5 (.sl s2.size 0 1 (.known 1)) [kb] := f4.gr' f5.gr
  obtain ⟨y6, s6, ap6, f6, z6, k6, n6⟩ := FB.app' f45 f5.rd (by have := vput_len e.v.toNat; simp; omega)
  have h6 : s6.get s.size = some (.cells true (cE e)) := f6.gr.get h2 g2.wf
  have hacc : ([kb] ++ vput e.v.toNat).length ≤ 1000 := by have := vput_len e.v.toNat; simp; omega
  have L : ∀ (j : Nat) (x : S), (cE e)[j]? = some x → aLoad1 (Z (.ptr s.size j)) s6.get = some (Z x) := fun j x hx => aLoad1_of h6 hx
  have l0 := L 0 _ rfl
  have l2 := L 2 _ rfl
  have l3 := L 3 _ rfl
  have l4 := L 4 _ rfl
  have l5 := L 5 _ rfl
  have l6 := L 6 _ rfl
  have l7 := L 7 _ rfl
  -- behind the numbers
  have fin : ∀ (z : S) (τ : St), FB s2 τ z ([kb] ++ vput e.v.toNat ++ putNs (nums e)) → ∃ y t, aLoad1 (Z (.ptr s.size 7)) τ.get = some (Z (.str e.x)) ∧ aAppend 1 1 (Z z) (Z (.str e.x)) τ = some (Z y, t) ∧ FB s t y (putB e) := fun z τ hf => by
    have hx := mayE_x h
    have hn := putNs_len (nums e)
    have hn2 := nums_len e
    obtain ⟨y, t, ap, hf2, _⟩ := FB.appStr (cs := e.x) hf (by simp at hacc ⊢; omega)
    refine ⟨y, t, aLoad1_of (hf.gr.get h2 g2.wf) rfl, ap, ?_⟩
    have e1 : [kb] ++ vput e.v.toNat ++ putNs (nums e) ++ e.x = putB e := by rw [hkb]; simp [putB]
    rw [e1] at hf2
    exact hf2.from (g1.trans g2)
  have hlt := nums_lt h hw
  have hnl := nums_len e
  have own6 : ∀ c, own y6 = some c → c < s6.size := fun c hc => (f6.new c hc).2
  -- a new slice of numbers
  have num : ∀ n, n = (nums e).length → ∃ z τ, loops (f31_l1 (R (d + 8)) 8192) 8192 [Z (.ptr s.size 0), Z y6, Z (.sl s6.size 0 n (.known n)), I .i64 (n : Nat), I .i64 0] (s6.push (.cells true (u64S (nums e)))) = some (.exit 1 [Z (.ptr s.size 0), Z z], τ) ∧ FB s2 τ z ([kb] ++ vput e.v.toNat ++ putNs (nums e)) := fun n hn => by
    subst hn
    have L := Fr.lit 1 f6.gr.wf (n := (nums e).length) (vs := u64S (nums e)) (by simp)
    exact nums_loop (d + 7) (v0 := Z (.ptr s.size 0)) (f6.gr' L.gr) L.rd (fun c hc => by
      cases hc
      exact ⟨by simp, (fun e => by have := own6 _ e; omega), by have := f6.gr.2.1; omega⟩) hlt hnl hacc
  simp only [Nat.add_assoc, Nat.reduceAdd] at e5
  by_cases c1 : e.k = 1
  · have ns : nums e = [e.i.toNat, e.t.toNat, e.f.toNat, e.o.toNat, e.u.toNat] := by unfold nums; rw [if_pos c1]
    obtain ⟨_, i1, i2, t1, t2, q1, q2, q3⟩ := hk1 c1
    have hu := hw.1
    have hu2 := hw.2
    have w2 : IntKind.u64.wrap e.i = (e.i.toNat : Int) := by rw [wrap_u64_in _ (by omega) (by omega)]; omega
    have w3 : IntKind.u64.wrap e.t = (e.t.toNat : Int) := by rw [wrap_u64_in _ (by omega) (by omega)]; omega
    have w4 : IntKind.u64.wrap e.f = (e.f.toNat : Int) := by rw [wrap_u64_in _ (by omega) (by omega)]; omega
    have w5 : IntKind.u64.wrap e.o = (e.o.toNat : Int) := by rw [wrap_u64_in _ (by omega) (by omega)]; omega
    have w6 : IntKind.u64.wrap e.u = (e.u.toNat : Int) := by rw [wrap_u64_in _ (by omega) (by omega)]; omega
    obtain ⟨z, τ, lp, hf⟩ := num 5 (by rw [ns]; rfl)
    obtain ⟨y, t, lx, apx, hf2⟩ := fin z τ hf
    have nw7 : aNew s6 (nSlice 5 (aFill [.int .u64 0, .int .u64 0, .int .u64 0, .int .u64 0, .int .u64 0] [(0, 1, I .u64 (e.i.toNat : Int)), (1, 1, I .u64 (e.t.toNat : Int)), (2, 1, I .u64 (e.f.toNat : Int)), (3, 1, I .u64 (e.o.toNat : Int)), (4, 1, I .u64 (e.u.toNat : Int))])) =
        some (Z (.sl s6.size 0 5 (.known 5)), s6.push (.cells true (u64S (nums e)))) := by rw [ns]; rfl
    refine ⟨y, t, ?_, hf2⟩
    generalize s6.push (.cells true (u64S (nums e))) = s7 at *
    generalize R (d + 8) = r at *
    generalize (e.i.toNat : Int) = A2 at *
    generalize (e.t.toNat : Int) = A3 at *
    generalize (e.f.toNat : Int) = A4 at *
    generalize (e.o.toNat : Int) = A5 at *
    generalize (e.u.toNat : Int) = A6 at *
    generalize (e.v.toNat : Int) = A1 at *
    generalize (kb.toNat : Int) = KB at *
    have w1' : IntKind.u8.wrap 1 = KB := by rw [← c1]; exact wk
    have lq : loops (f31_l1 r 8192) 8192 [Z (.ptr s.size 0), Z y6, Z (.sl s6.size 0 5 (.known 5)), I .i64 5, I .i64 0] s7 = some (.exit 1 [Z (.ptr s.size 0), Z z], τ) := lp
    simp [nw1, l8, e2, lk, c1, w1', nw4, lv, wv, e5, ap6, hov, lk5, l0, l2, l3, l4, l5, l6, w2, w3, w4, w5, w6, nw7, lq, lx, apx, retT, allV]
  · by_cases c2 : e.k = 2
    · have ns : nums e = [e.i.toNat] := by unfold nums; rw [if_neg c1, if_pos c2]
      obtain ⟨i1, i2, _⟩ := hk2 c2
      have w2 : IntKind.u64.wrap e.i = (e.i.toNat : Int) := by rw [wrap_u64_in _ (by omega) (by omega)]; omega
      obtain ⟨z, τ, lp, hf⟩ := num 1 (by rw [ns]; rfl)
      obtain ⟨y, t, lx, apx, hf2⟩ := fin z τ hf
      have nw7 : aNew s6 (nSlice 1 (aFill [.int .u64 0] [(0, 1, I .u64 (e.i.toNat : Int))])) = some (Z (.sl s6.size 0 1 (.known 1)), s6.push (.cells true (u64S (nums e)))) := by rw [ns]; rfl
      refine ⟨y, t, ?_, hf2⟩
      generalize s6.push (.cells true (u64S (nums e))) = s7 at *
      generalize R (d + 8) = r at *
      generalize (e.i.toNat : Int) = A2 at *
      generalize (e.v.toNat : Int) = A1 at *
      generalize (kb.toNat : Int) = KB at *
      have w1' : IntKind.u8.wrap 2 = KB := by rw [← c2]; exact wk
      have lq : loops (f31_l1 r 8192) 8192 [Z (.ptr s.size 0), Z y6, Z (.sl s6.size 0 1 (.known 1)), I .i64 1, I .i64 0] s7 = some (.exit 1 [Z (.ptr s.size 0), Z z], τ) := lp
      simp [nw1, l8, e2, lk, c2, w1', nw4, lv, wv, e5, ap6, hov, lk5, l0, l2, w2, nw7, lq, lx, apx, retT, allV]
    · by_cases c4 : e.k = 4
      · have ns : nums e = [e.x.length] := by unfold nums; rw [if_neg c1, if_neg c2, if_pos c4]
        have hx := mayE_x h
        have w2 : IntKind.u64.wrap (e.x.length : Int) = (e.x.length : Int) := wrap64 _ (by omega)
        obtain ⟨z, τ, lp, hf⟩ := num 1 (by rw [ns]; rfl)
        obtain ⟨y, t, lx, apx, hf2⟩ := fin z τ hf
        have nw7 : aNew s6 (nSlice 1 (aFill [.int .u64 0] [(0, 1, I .u64 (e.x.length : Int))])) = some (Z (.sl s6.size 0 1 (.known 1)), s6.push (.cells true (u64S (nums e)))) := by rw [ns]; rfl
        refine ⟨y, t, ?_, hf2⟩
        generalize s6.push (.cells true (u64S (nums e))) = s7 at *
        generalize R (d + 8) = r at *
        generalize (e.v.toNat : Int) = A1 at *
        generalize (kb.toNat : Int) = KB at *
        have w1' : IntKind.u8.wrap 4 = KB := by rw [← c4]; exact wk
        have lq : loops (f31_l1 r 8192) 8192 [Z (.ptr s.size 0), Z y6, Z (.sl s6.size 0 1 (.known 1)), I .i64 1, I .i64 0] s7 = some (.exit 1 [Z (.ptr s.size 0), Z z], τ) := lp
        simp [nw1, l8, e2, lk, c4, w1', nw4, lv, wv, e5, ap6, hov, lk5, l0, l7, w2, nw7, lq, lx, apx, retT, allV]
      · have c3 : e.k = 3 := by omega
        have ns : nums e = [] := by unfold nums; rw [if_neg c1, if_neg c2, if_neg c4]
        obtain ⟨z, τ, lp, hf⟩ := nums_loop (x := .nils) (ns := []) (d + 7) (v0 := Z (.ptr s.size 0)) f6 (Rd.nil 1 _) (fun c hc => by cases hc) (fun n hn => by cases hn) (by simp) hacc
        rw [← ns] at hf
        obtain ⟨y, t, lx, apx, hf2⟩ := fin z τ hf
        refine ⟨y, t, ?_, hf2⟩
        simp only [Nat.add_assoc, Nat.reduceAdd] at lp
        generalize R (d + 8) = r at *
        generalize (e.v.toNat : Int) = A1 at *
        generalize (kb.toNat : Int) = KB at *
        have w1' : IntKind.u8.wrap 3 = KB := by rw [← c3]; exact wk
        have lq : loops (f31_l1 r 8192) 8192 [Z (.ptr s.size 0), Z y6, Z .nils, I .i64 0, I .i64 0] s6 = some (.exit 1 [Z (.ptr s.size 0), Z z], τ) := lp
        simp [nw1, l8, e2, lk, c3, w1', nw4, lv, wv, e5, ap6, hov, lk5, l0, lq, lx, apx, retT, allV]
end
end Go.Proofs.YtlhbidbdmdcdeaaGreatDoor

/-
  What entry.Get computes, in any store. No conditions but those named in each line.
-/
namespace Go.Proofs.YtlhbidbdmdcdeaaGreatDoor
open Go Go.Abs Go.Abs.F
set_option linter.unusedVariables false

def nxt (bs : Bs) (most at_ : Nat) (bad : Bool) : Nat × Nat × Bool := match vget bs at_ with
  | some (n, e) => (min n most, e, bad || decide (most < n))
  | none => (0, at_, true)

def getFields (bs : Bs) (c : UInt8) : Option (Ent × Bool) :=
  let p := nxt bs 1073741824 1 false
  let e0 : Ent := { ent0 with k := c.toNat, v := (p.1 : Nat) }
  if c.toNat = 1 then
    let i := nxt bs 1073741824 p.2.1 p.2.2
    let t := nxt bs 4 i.2.1 i.2.2
    let f := nxt bs 1099511627776 t.2.1 t.2.2
    let o := nxt bs 1099511627776 f.2.1 f.2.2
    let u := nxt bs 4294967295 o.2.1 o.2.2
    some ({ e0 with i := (i.1 : Nat), t := (t.1 : Nat), f := (f.1 : Nat), o := (o.1 : Nat), u := (u.1 : Nat) }, u.2.2)
  else if c.toNat = 2 then
    let i := nxt bs 1073741824 p.2.1 p.2.2
    some ({ e0 with i := (i.1 : Nat) }, i.2.2)
  else if c.toNat = 4 then
    let m := nxt bs 300 p.2.1 p.2.2
    if m.2.2 = true ∨ bs.length < m.2.1 + m.1 then none else some ({ e0 with x := (bs.drop m.2.1).take m.1 }, m.2.2)
  else some (e0, p.2.2)

def getE (bs : Bs) : Option Ent := match bs with
  | [] => none
  | c :: _ => match getFields bs c with
    | none => none
    | some (e, bad) => if bad = false ∧ putE e = some bs then some e else none

section
variable {s t : St} {x y : S} {bs cs : Bs} {i : Nat}

theorem nxt_le {bs : Bs} {most at_ : Nat} {bad : Bool} : (nxt bs most at_ bad).1 ≤ most := by
  unfold nxt
  split
  · exact Nat.min_le_right _ _
  · exact Nat.zero_le _
theorem nxt_at {bs : Bs} {most at_ : Nat} {bad : Bool} (h : at_ ≤ bs.length) : (nxt bs most at_ bad).2.1 ≤ bs.length := by
  unfold nxt
  split
  · rename_i n e he
    exact (vget_lt he).2
  · exact h

theorem beq_run (d : Nat) (h : RB s x bs) (k : RB s y cs) : R (d + 1) 55 [Z x, Z y] s = some (B (decide (bs = cs)), s) := by
  rw [f55_run]
  unfold f55
  simp [h.str, k.str]

/-- While the numbers are read. -/
structure Cur (s0 s : St) (x : S) (bs : Bs) (at_ : Nat) (bad : Bool) : Prop where
  gr : Gr s0 s
  ge : s0.size + 4 ≤ s.size
  c1 : s.get s0.size = some (.cells true [x])
  c2 : s.get (s0.size + 1) = some (.cells true (cE ent0))
  c4 : s.get (s0.size + 2) = some (.cells true [.int .i64 (at_ : Nat)])
  c5 : s.get (s0.size + 3) = some (.cells true [.bool bad])
  le : at_ ≤ bs.length

theorem Cur.set {s0 : St} {at_ : Nat} {bad : Bool} (h : Cur s0 s x bs at_ bad) {b : Nat} (hb : s0.size + 4 ≤ b) (hb2 : b < s.size) (v : Blk) : Cur s0 (s.set b v) x bs at_ bad :=
  ⟨⟨St.wf_set h.gr.wf hb2 _, by simpa using h.gr.2.1, fun c hc => by rw [St.get_set_ne _ _ (by omega)]; exact h.gr.2.2 c hc⟩, by simpa using h.ge, by rw [St.get_set_ne _ _ (by omega)]; exact h.c1, by rw [St.get_set_ne _ _ (by omega)]; exact h.c2,
    by rw [St.get_set_ne _ _ (by omega)]; exact h.c4, by rw [St.get_set_ne _ _ (by omega)]; exact h.c5, h.le⟩

theorem Cur.gr' {s0 : St} {at_ : Nat} {bad : Bool} (h : Cur s0 s x bs at_ bad) (g : Gr s t) : Cur s0 t x bs at_ bad := by
  have := h.ge
  exact ⟨h.gr.trans g, Nat.le_trans h.ge g.2.1, by rw [g.2.2 _ (by omega)]; exact h.c1, by rw [g.2.2 _ (by omega)]; exact h.c2, by rw [g.2.2 _ (by omega)]; exact h.c4, by rw [g.2.2 _ (by omega)]; exact h.c5, h.le⟩

theorem next_run (d : Nat) {s0 : St} {at_ : Nat} {bad : Bool} (h : Cur s0 s x bs at_ bad) (hx : RB s0 x bs) (hox : ∀ c, own x = some c → c < s0.size) (hl : bs.length ≤ 8000) (most : Nat) (hm : most < 2 ^ 63) :
    ∃ t, R (d + 2) 53 [I .u64 (most : Nat), Z (.ptr s0.size 0), Z (.ptr (s0.size + 2) 0), Z (.ptr (s0.size + 3) 0)] s = some (I .i64 ((nxt bs most at_ bad).1 : Nat), t) ∧ Cur s0 t x bs (nxt bs most at_ bad).2.1 (nxt bs most at_ bad).2.2 ∧ t.size = s.size ∧
      ∀ b, b ≠ s0.size + 2 → b ≠ s0.size + 3 → t.get b = s.get b := by
  rw [f53_run]
  unfold f53
  have hge := h.ge
  have hle := h.le
  have rx : RB s x bs := hx.gr hox h.gr
  have l1 : aLoad1 (Z (.ptr s0.size 0)) s.get = some (Z x) := aLoad1_of h.c1 rfl
  have l4 : aLoad1 (Z (.ptr (s0.size + 2) 0)) s.get = some (I .i64 (at_ : Nat)) := aLoad1_of h.c4 rfl
  have l5 : aLoad1 (Z (.ptr (s0.size + 3) 0)) s.get = some (B bad) := aLoad1_of h.c5 rfl
  have e1 := vget_run d rx (by omega) (at_ := at_) (by omega)
  obtain ⟨N, hN⟩ : ∃ N, N = nxt bs most at_ bad := ⟨_, rfl⟩
  rw [← hN]
  obtain ⟨t1, ht1⟩ : ∃ t1, t1 = s.set (s0.size + 3) (.cells true [.bool N.2.2]) := ⟨_, rfl⟩
  have st1 : aStore 1 (Z (.ptr (s0.size + 3) 0)) (B N.2.2) s = some (tt, t1) := by rw [ht1]; exact aStore1_of h.c5 (by simp)
  have c4' : t1.get (s0.size + 2) = some (.cells true [.int .i64 (at_ : Nat)]) := by rw [ht1, St.get_set_ne _ _ (by omega)]; exact h.c4
  obtain ⟨t2, ht2⟩ : ∃ t2, t2 = t1.set (s0.size + 2) (.cells true [.int .i64 (N.2.1 : Nat)]) := ⟨_, rfl⟩
  have st2 : aStore 1 (Z (.ptr (s0.size + 2) 0)) (I .i64 (N.2.1 : Nat)) t1 = some (tt, t2) := by rw [ht2]; exact aStore1_of c4' (by simp)
  have z1 : t1.size = s.size := by rw [ht1]; rfl
  have z2 : t2.size = s.size := by rw [ht2]; exact z1
  have w1 : t1.wf := by rw [ht1]; exact St.wf_set h.gr.wf (by omega) _
  have w2 : t2.wf := by rw [ht2]; exact St.wf_set w1 (by omega) _
  have keep : ∀ b, b ≠ s0.size + 2 → b ≠ s0.size + 3 → t2.get b = s.get b := fun b h1 h2 => by rw [ht2, St.get_set_ne _ _ h1, ht1, St.get_set_ne _ _ h2]
  have hN1 : N.2.1 ≤ bs.length := by rw [hN]; exact nxt_at hle
  have cur : Cur s0 t2 x bs N.2.1 N.2.2 := ⟨⟨w2, by rw [z2]; exact h.gr.2.1, fun b hb => by rw [keep b (by omega) (by omega)]; exact h.gr.2.2 b hb⟩, by omega, by rw [keep _ (by omega) (by omega)]; exact h.c1, by rw [keep _ (by omega) (by omega)]; exact h.c2,
    by rw [ht2]; exact St.get_set_same _ _ _, by rw [ht2, St.get_set_ne _ _ (by omega), ht1]; exact St.get_set_same _ _ _, hN1⟩
  refine ⟨t2, ?_, cur, z2, keep⟩
  cases hv : vget bs at_ with
  | none =>
    have hn : N = (0, at_, true) := by rw [hN]; unfold nxt; rw [hv]
    rw [hv] at e1
    simp only [vres, if_pos hle] at e1
    rw [hn] at st1 st2 ⊢
    have hmin : min (0 : Int) ((most : Nat) : Int) = 0 := by omega
    have w0 : IntKind.i64.wrap 0 = 0 := rfl
    cases bad with
    | true => simp [l1, l4, e1, aExtract, l5, gtt, st1, st2, hmin, w0]
    | false => simp [l1, l4, e1, aExtract, l5, gtt, st1, st2, hmin, w0]
  | some p =>
    obtain ⟨n, e⟩ := p
    have hn : N = (min n most, e, bad || decide (most < n)) := by rw [hN]; unfold nxt; rw [hv]
    rw [hv] at e1
    simp only [vres] at e1
    rw [hn] at st1 st2 ⊢
    have hmin : min ((n : Nat) : Int) ((most : Nat) : Int) = ((min n most : Nat) : Int) := by omega
    have wm : IntKind.i64.wrap ((min n most : Nat) : Int) = ((min n most : Nat) : Int) := wrap_in _ (by omega) (by omega)
    have cm : decide (((most : Nat) : Int) < ((n : Nat) : Int)) = decide (most < n) := decide_eq_decide.2 (by omega)
    generalize ((min n most : Nat) : Int) = M at *
    generalize ((n : Nat) : Int) = NN at *
    generalize ((most : Nat) : Int) = MM at *
    generalize decide (most < n) = dd at *
    cases bad with
    | true => simp [l1, l4, e1, aExtract, l5, gtt, st2, hmin, wm] at st1 ⊢; simp [st1, st2]
    | false => simp [l1, l4, e1, aExtract, l5, gtt, st2, hmin, wm, cm] at st1 ⊢; simp [st1, st2]

/-- What Get does last. -/
noncomputable def getTail (callf : CallF) (v42 : List T) (s43 : St) : Option (T × St) :=
  bd (aLoadN 8 (v42.getD 3 .any) s43.get) fun t71 =>
  bd2 (callf 31 [t71] s43) fun t72 s46 =>
  bd (aExtract t72 0) fun t73 =>
  bd (aExtract t72 1) fun t74 =>
  bd (aLoad1 (v42.getD 2 .any) s46.get) fun t75 =>
  bd (gT (gd t75 false) (some t74)) fun t77 =>
  bd (gT (gd t75 false) (aBin .neq t77 (I .i64 0))) fun t78 =>
  bd (aPick t75 (B true) t78) fun t79 =>
  bd (gT (gd t79 false) (some t73)) fun t81 =>
  bd (gT (gd t79 false) (aLoad1 (v42.getD 0 .any) s46.get)) fun t82 =>
  bd2 (gS (gd t79 false) s46 (callf 55 [t81, t82] s46)) fun t83 s47 =>
  bd (gT (gd t79 false) (aUn .not t83)) fun t84 =>
  bd (aPick t79 (B true) t84) fun t85 =>
  br t85 (bd (asAggT (aFill [.int .i64 0, .int .i64 0, .int .i64 0, .int .i64 0, .int .i64 0, .int .i64 0, .int .u32 0, .str []] [])) fun t86 =>
  bd2 (aStore 8 (v42.getD 1 .any) t86 s47) fun _ s48 =>
  bd (rC (aLoadN 8 (v42.getD 1 .any) s48.get) (rT (I .i64 2) (some []))) fun l49 => bd (retT l49) fun r50 =>
  some (r50, s48))
  (bd (aLoadN 8 (v42.getD 3 .any) s47.get) fun t87 =>
  bd2 (aStore 8 (v42.getD 1 .any) t87 s47) fun _ s51 =>
  bd (rC (aLoadN 8 (v42.getD 1 .any) s51.get) (rT (I .i64 0) (some []))) fun l52 => bd (retT l52) fun r53 =>
  some (r53, s51))

abbrev resE (o : Option Ent) : T := match o with
  | some e => .tup [.agg (cE e), .s (.int .i64 0)]
  | none => .tup [.agg (cE ent0), .s (.int .i64 2)]

theorem tail_run (d : Nat) {s0 : St} {at_ : Nat} {bad : Bool} {e : Ent} (h : Cur s0 s x bs at_ bad) (hx : RB s0 x bs) (hox : ∀ c, own x = some c → c < s0.size) (hz : s.size = s0.size + 5) (he : s.get (s0.size + 4) = some (.cells true (cE e))) (hw : EWf e) :
    ∃ τ, getTail (R (d + 9)) [Z (.ptr s0.size 0), Z (.ptr (s0.size + 1) 0), Z (.ptr (s0.size + 3) 0), Z (.ptr (s0.size + 4) 0)] s = some (resE (if bad = false ∧ putE e = some bs then some e else none), τ) ∧ Gr s0 τ := by
  have l8 := load8 (g := s.get) he
  unfold getTail
  -- whatever Put says
  have fin : ∀ u, Gr s u → aLoad1 (Z (.ptr (s0.size + 3) 0)) u.get = some (B bad) ∧ aLoad1 (Z (.ptr s0.size 0)) u.get = some (Z x) ∧ RB u x bs ∧ aLoadN 8 (Z (.ptr (s0.size + 4) 0)) u.get = some (AE e) ∧
      (∀ e', aStore 8 (Z (.ptr (s0.size + 1) 0)) (AE e') u = some (tt, u.set (s0.size + 1) (.cells true (cE e'))) ∧ aLoadN 8 (Z (.ptr (s0.size + 1) 0)) (u.set (s0.size + 1) (.cells true (cE e'))).get = some (AE e') ∧ Gr s0 (u.set (s0.size + 1) (.cells true (cE e')))) := fun u g => by
    have h' := h.gr' g
    have he' : u.get (s0.size + 4) = some (.cells true (cE e)) := by rw [g.2.2 _ (by omega)]; exact he
    refine ⟨aLoad1_of h'.c5 rfl, aLoad1_of h'.c1 rfl, hx.gr hox h'.gr, load8 he', fun e' => ⟨store8 h'.c2 rfl, load8 (St.get_set_same _ _ _), ⟨St.wf_set h'.gr.wf (by have := h'.ge; omega) _, by simpa using h'.gr.2.1, fun b hb => by rw [St.get_set_ne _ _ (by omega)]; exact h'.gr.2.2 b hb⟩⟩⟩
  cases hm : mayE e with
  | false =>
    obtain ⟨u, eu, gu⟩ := put_bad d h.gr.wf hm
    obtain ⟨f1, f2, f3, f4, f5⟩ := fin u gu
    obtain ⟨q1, q2, q3⟩ := f5 ent0
    have hp : ¬ (bad = false ∧ putE e = some bs) := fun hh => by simp [putE, hm] at hh
    rw [if_neg hp]
    refine ⟨_, ?_, q3⟩
    generalize u.set (s0.size + 1) (.cells true (cE ent0)) = u2 at *
    generalize R (d + 9) = r at *
    cases bad with
    | true => simp [l8, eu, aExtract, f1, gtt, agg8, q1, q2, rC, rT, retT, allV]
    | false => simp [l8, eu, aExtract, f1, gtt, agg8, q1, q2, rC, rT, retT, allV]
  | true =>
    obtain ⟨y, u, eu, fu⟩ := put_run d h.gr.wf hm hw
    obtain ⟨f1, f2, f3, f4, f5⟩ := fin u fu.gr
    have eq := beq_run (d + 8) fu.rd f3
    have hput : putE e = some (putB e) := by simp [putE, hm]
    simp only [Nat.add_assoc, Nat.reduceAdd] at eq
    cases bad with
    | true =>
      obtain ⟨q1, q2, q3⟩ := f5 ent0
      have hp : ¬ (true = false ∧ putE e = some bs) := fun hh => by simp at hh
      rw [if_neg hp]
      refine ⟨_, ?_, q3⟩
      generalize u.set (s0.size + 1) (.cells true (cE ent0)) = u2 at *
      generalize R (d + 9) = r at *
      simp [l8, eu, aExtract, f1, gtt, agg8, q1, q2, rC, rT, retT, allV]
    | false =>
      by_cases hb : putB e = bs
      · obtain ⟨q1, q2, q3⟩ := f5 e
        rw [if_pos ⟨rfl, by rw [hput, hb]⟩]
        rw [decide_eq_true hb] at eq
        refine ⟨_, ?_, q3⟩
        generalize u.set (s0.size + 1) (.cells true (cE e)) = u2 at *
        generalize R (d + 9) = r at *
        simp [l8, eu, aExtract, f1, f2, f4, eq, q1, q2, rC, rT, retT, allV]
      · obtain ⟨q1, q2, q3⟩ := f5 ent0
        have hp : ¬ (false = false ∧ putE e = some bs) := fun hh => by
          rw [hput] at hh
          exact hb (by simpa using hh.2)
        rw [if_neg hp]
        rw [decide_eq_false hb] at eq
        refine ⟨_, ?_, q3⟩
        generalize u.set (s0.size + 1) (.cells true (cE ent0)) = u2 at *
        generalize R (d + 9) = r at *
        simp [l8, eu, aExtract, f1, f2, eq, agg8, q1, q2, rC, rT, retT, allV]

theorem dyn_clo {callf : CallF} {f a b c : Nat} {args : List T} {σ : St} (h : callable Tryz.prog f = true) : dyn Tryz.prog callf (Z (.clo f [(a, 0), (b, 0), (c, 0)])) args σ = callf f (args ++ [Z (.ptr a 0), Z (.ptr b 0), Z (.ptr c 0)]) σ := by
  simp [dyn, h, capT]

theorem set_field {e : Ent} : setRange (cE e) 2 [.int .i64 i] = cE { e with i := i } ∧ setRange (cE e) 3 [.int .i64 i] = cE { e with t := i } ∧ setRange (cE e) 4 [.int .i64 i] = cE { e with f := i } ∧ setRange (cE e) 5 [.int .i64 i] = cE { e with o := i } ∧
    setRange (cE e) 6 [.int .u32 i] = cE { e with u := i } ∧ setRange (cE e) 7 [.str bs] = cE { e with x := bs } := ⟨rfl, rfl, rfl, rfl, rfl, rfl⟩

theorem get_run (d : Nat) (wf : s.wf) (hx : RB s x bs) (hox : ∀ c, own x = some c → c < s.size) (hl : bs.length ≤ 8000) : ∃ τ, R (d + 10) 33 [Z x] s = some (resE (getE bs), τ) ∧ Gr s τ := by
  rw [f33_run]
  unfold f33
  obtain ⟨n, hn⟩ : ∃ n, n = s.size := ⟨_, rfl⟩
  obtain ⟨s1, hs1⟩ : ∃ s1, s1 = s.push (.cells true [x]) := ⟨_, rfl⟩
  have nw1 : aNew s (nBox (Z x)) = some (Z (.ptr n 0), s1) := by rw [hs1, hn]; rfl
  have g1 : Gr s s1 := by rw [hs1]; exact Gr.push wf _
  have z1 : s1.size = n + 1 := by rw [hs1, hn]; rfl
  have b1 : s1.get n = some (.cells true [x]) := by rw [hs1, hn]; exact St.get_push_same _ _
  obtain ⟨s2, hs2⟩ : ∃ s2, s2 = s1.push (.cells true (cE ent0)) := ⟨_, rfl⟩
  have nw2 : aNew s1 (nCells [.int .i64 0, .int .i64 0, .int .i64 0, .int .i64 0, .int .i64 0, .int .i64 0, .int .u32 0, .str []]) = some (Z (.ptr (n + 1) 0), s2) := by rw [hs2, ← z1]; rfl
  have g2 : Gr s1 s2 := by rw [hs2]; exact Gr.push g1.wf _
  have z2 : s2.size = n + 2 := by rw [hs2]; simp [z1]
  have b2 : s2.get (n + 1) = some (.cells true (cE ent0)) := by rw [hs2, ← z1]; exact St.get_push_same _ _
  have b1' : s2.get n = some (.cells true [x]) := by rw [g2.2.2 n (by omega)]; exact b1
  have ld1 : aLoad1 (Z (.ptr n 0)) s2.get = some (Z x) := aLoad1_of b1' rfl
  have hlen := hx.lenB
  cases hbs : bs with
  | nil =>
    rw [hbs] at hlen
    have st := store8 (e := ent0) b2 rfl
    have ld := load8 (g := (s2.set (n + 1) (.cells true (cE ent0))).get) (i := n + 1) (e := ent0) (St.get_set_same _ _ _)
    refine ⟨s2.set (n + 1) (.cells true (cE ent0)), ?_, ⟨St.wf_set g2.wf (by omega) _, by simp; omega, fun b hb => by rw [St.get_set_ne _ _ (by omega), g2.2.2 b (by omega), g1.2.2 b hb]⟩⟩
    generalize s2.set (n + 1) (.cells true (cE ent0)) = s3 at *
    simp [nw1, nw2, ld1, hlen, agg8, st, ld, rC, rT, retT, allV, getE]
  | cons c0 rest =>
    have hpos : 0 < bs.length := by rw [hbs]; simp
    obtain ⟨s6, hs6⟩ : ∃ s6, s6 = s2.push (.cells true [.int .i64 0]) := ⟨_, rfl⟩
    have nw6 : aNew s2 (nCells [.int .i64 0]) = some (Z (.ptr (n + 2) 0), s6) := by rw [hs6, ← z2]; rfl
    have g6 : Gr s2 s6 := by rw [hs6]; exact Gr.push g2.wf _
    have z6 : s6.size = n + 3 := by rw [hs6]; simp [z2]
    have b6 : s6.get (n + 2) = some (.cells true [.int .i64 0]) := by rw [hs6, ← z2]; exact St.get_push_same _ _
    obtain ⟨s7, hs7⟩ : ∃ s7, s7 = s6.push (.cells true [.bool false]) := ⟨_, rfl⟩
    have nw7 : aNew s6 (nCells [.bool false]) = some (Z (.ptr (n + 3) 0), s7) := by rw [hs7, ← z6]; rfl
    have g7 : Gr s6 s7 := by rw [hs7]; exact Gr.push g6.wf _
    have z7 : s7.size = n + 4 := by rw [hs7]; simp [z6]
    have b7 : s7.get (n + 3) = some (.cells true [.bool false]) := by rw [hs7, ← z6]; exact St.get_push_same _ _
    have b6' : s7.get (n + 2) = some (.cells true [.int .i64 0]) := by rw [g7.2.2 _ (by omega)]; exact b6
    obtain ⟨s8, hs8⟩ : ∃ s8, s8 = s7.set (n + 2) (.cells true [.int .i64 1]) := ⟨_, rfl⟩
    have st8 : aStore 1 (Z (.ptr (n + 2) 0)) (I .i64 1) s7 = some (tt, s8) := by rw [hs8]; exact aStore1_of b6' (by simp)
    have b7' : s8.get (n + 3) = some (.cells true [.bool false]) := by rw [hs8, St.get_set_ne _ _ (by omega)]; exact b7
    obtain ⟨s9, hs9⟩ : ∃ s9, s9 = s8.set (n + 3) (.cells true [.bool false]) := ⟨_, rfl⟩
    have st9 : aStore 1 (Z (.ptr (n + 3) 0)) (B false) s8 = some (tt, s9) := by rw [hs9]; exact aStore1_of b7' (by simp)
    have z9 : s9.size = n + 4 := by rw [hs9, hs8]; simpa using z7
    have wf8 : s8.wf := by rw [hs8]; exact St.wf_set g7.wf (by omega) _
    have wf9 : s9.wf := by rw [hs9]; exact St.wf_set wf8 (by rw [hs8]; simp [z7]) _
    have old9 : ∀ b, b < n + 2 → s9.get b = s2.get b := fun b hb => by rw [hs9, St.get_set_ne _ _ (by omega), hs8, St.get_set_ne _ _ (by omega), g7.2.2 b (by omega), g6.2.2 b (by omega)]
    have cur9 : Cur s s9 x bs 1 false := by
      refine ⟨⟨wf9, by omega, fun b hb => by rw [old9 b (by omega), g2.2.2 b (by omega), g1.2.2 b hb]⟩, by omega, by rw [← hn, old9 _ (by omega)]; exact b1', by rw [← hn, old9 _ (by omega)]; exact b2, ?_, by rw [← hn, hs9]; exact St.get_set_same _ _ _, by omega⟩
      rw [← hn, hs9, St.get_set_ne _ _ (by omega), hs8]
      exact St.get_set_same _ _ _
    have ld9 : aLoad1 (Z (.ptr n 0)) s9.get = some (Z x) := by rw [hn]; exact aLoad1_of cur9.c1 rfl
    have rx9 : RB s9 x bs := hx.gr hox cur9.gr
    have hc0 : bs[0]? = some c0 := by rw [hbs]; rfl
    obtain ⟨p0, ix0, lp0⟩ := RB.atB rx9 (n := 0) (j := 0) rfl hc0
    have clo : aClo 53 [Z (.ptr n 0), Z (.ptr (n + 2) 0), Z (.ptr (n + 3) 0)] [] = some (Z (.clo 53 [(n, 0), (n + 2, 0), (n + 3, 0)])) := rfl
    have hcal : callable Tryz.prog 53 = true := by kernel_rfl
    have dy : ∀ (r : CallF) (m : Int) (u : St), dyn Tryz.prog r (Z (.clo 53 [(n, 0), (n + 2, 0), (n + 3, 0)])) [I .u64 m] u = r 53 [I .u64 m, Z (.ptr n 0), Z (.ptr (n + 2) 0), Z (.ptr (n + 3) 0)] u := fun r m u => dyn_clo hcal
    have nxr : ∀ (u : St) (a : Nat) (bad : Bool) (most : Nat), Cur s u x bs a bad → most < 2 ^ 63 → ∃ t, R (d + 9) 53 [I .u64 (most : Nat), Z (.ptr n 0), Z (.ptr (n + 2) 0), Z (.ptr (n + 3) 0)] u = some (I .i64 ((nxt bs most a bad).1 : Nat), t) ∧ Cur s t x bs (nxt bs most a bad).2.1 (nxt bs most a bad).2.2 ∧ t.size = u.size ∧
        ∀ b, b ≠ n + 2 → b ≠ n + 3 → t.get b = u.get b := fun u a bad most hc hm => by
      have := next_run (d + 7) hc hx hox hl most hm
      rw [← hn] at this
      exact this
    obtain ⟨s10, e10, cur10, z10, k10⟩ := nxr s9 1 false 1073741824 cur9 (by decide)
    obtain ⟨P, hP⟩ : ∃ P, P = nxt bs 1073741824 1 false := ⟨_, rfl⟩
    rw [← hP] at e10 cur10
    obtain ⟨s11, hs11⟩ : ∃ s11, s11 = s10.push (.cells true (cE ent0)) := ⟨_, rfl⟩
    have nw11 : aNew s10 (nCells [.int .i64 0, .int .i64 0, .int .i64 0, .int .i64 0, .int .i64 0, .int .i64 0, .int .u32 0, .str []]) = some (Z (.ptr (n + 4) 0), s11) := by rw [hs11, show n + 4 = s10.size by omega]; rfl
    have g11 : Gr s10 s11 := by rw [hs11]; exact Gr.push cur10.gr.wf _
    have z11 : s11.size = n + 5 := by rw [hs11]; simp; omega
    have b11 : s11.get (n + 4) = some (.cells true (cE ent0)) := by rw [hs11, show n + 4 = s10.size by omega]; exact St.get_push_same _ _
    obtain ⟨e0, he0⟩ : ∃ e0 : Ent, e0 = { ent0 with k := c0.toNat, v := (P.1 : Nat) } := ⟨_, rfl⟩
    have ag0 : asAggT (aFill [.int .i64 0, .int .i64 0, .int .i64 0, .int .i64 0, .int .i64 0, .int .i64 0, .int .u32 0, .str []] [(0, 1, I .i64 (c0.toNat : Int)), (1, 1, I .i64 ((P.1 : Nat) : Int))]) = some (AE e0) := by rw [he0]; rfl
    obtain ⟨s12, hs12⟩ : ∃ s12, s12 = s11.set (n + 4) (.cells true (cE e0)) := ⟨_, rfl⟩
    have st12 := store8 (e := e0) b11 rfl
    rw [← hs12] at st12
    have cur12 : Cur s s12 x bs P.2.1 P.2.2 := by rw [hs12]; exact (cur10.gr' g11).set (by omega) (by omega) _
    have z12 : s12.size = n + 5 := by rw [hs12]; simpa using z11
    have b12 : s12.get (n + 4) = some (.cells true (cE e0)) := by rw [hs12]; exact St.get_set_same _ _ _
    -- the looks at what was read before
    have hupd : ∀ (q : T) (v : S), aLoad1 q s9.get = some (Z v) → (∀ b o, q = Z (.ptr b o) → b < s.size ∨ b = n) → aLoad1 q (updM s10.get s10.size (.cells true [.int .i64 0, .int .i64 0, .int .i64 0, .int .i64 0, .int .i64 0, .int .i64 0, .int .u32 0, .str []])) = aLoad1 q s9.get := by
      intro q v hq hb
      cases q with
      | any => cases hq
      | tup _ => cases hq
      | v w => cases w with
        | agg _ => cases hq
        | s w => cases w with
          | ptr b o =>
            have hb' := hb b o rfl
            have e1 : updM s10.get s10.size (.cells true [.int .i64 0, .int .i64 0, .int .i64 0, .int .i64 0, .int .i64 0, .int .i64 0, .int .u32 0, .str []]) b = s9.get b := by
              rw [updM_ne _ _ (by omega)]
              exact k10 b (by omega) (by omega)
            simp only [aLoad1, e1]
          | _ => cases hq
    have ck1 := hupd (Z (.ptr n 0)) x ld9 (fun b o e => by cases e; exact .inr rfl)
    have ck2 := hupd p0 (.int .u8 c0.toNat) lp0 (fun b o e => by
      subst e
      rcases rx9.rd with ⟨h0, _⟩ | ⟨c, o', cap, w, rows, rfl, _⟩
      · omega
      · have h2 := hox c rfl
        simp only [aIndexSl] at ix0
        split at ix0
        · cases ix0; exact .inl h2
        · cases ix0)
    have hkind : aLoad1 (Z (.ptr (n + 4) 0)) s12.get = some (I .i64 (c0.toNat : Int)) := aLoad1_of b12 (by rw [he0]; rfl)
    have w0 : IntKind.i64.wrap (c0.toNat : Int) = (c0.toNat : Int) := wrap_in _ (by have := c0.toNat_lt; omega) (by have := c0.toNat_lt; omega)
    have hne : ¬ ((bs.length : Int) = 0) := by omega
    have hget : getE bs = match getFields bs c0 with
      | none => none
      | some (e, bad) => if bad = false ∧ putE e = some bs then some e else none := by rw [hbs]; rfl
    rw [← hbs, hget]
    have nxq : ∀ (u : St) (a : Nat) (bad : Bool) (e : Ent) (most : Nat), (Cur s u x bs a bad ∧ u.size = n + 5 ∧ u.get (n + 4) = some (.cells true (cE e))) → most < 2 ^ 63 → ∃ t, R (d + 9) 53 [I .u64 (most : Nat), Z (.ptr n 0), Z (.ptr (n + 2) 0), Z (.ptr (n + 3) 0)] u = some (I .i64 ((nxt bs most a bad).1 : Nat), t) ∧
        (Cur s t x bs (nxt bs most a bad).2.1 (nxt bs most a bad).2.2 ∧ t.size = n + 5 ∧ t.get (n + 4) = some (.cells true (cE e))) := fun u a bad e most hq hm => by
      obtain ⟨t, e1, c1, z, k⟩ := nxr u a bad most hq.1 hm
      exact ⟨t, e1, c1, by rw [z]; exact hq.2.1, by rw [k _ (by omega) (by omega)]; exact hq.2.2⟩
    have stq : ∀ (u : St) (a : Nat) (bad : Bool) (e e' : Ent) (off : Nat) (val : S), (Cur s u x bs a bad ∧ u.size = n + 5 ∧ u.get (n + 4) = some (.cells true (cE e))) → setRange (cE e) off [val] = cE e' → off < 8 → ∃ t, aStore 1 (Z (.ptr (n + 4) off)) (Z val) u = some (tt, t) ∧
        (Cur s t x bs a bad ∧ t.size = n + 5 ∧ t.get (n + 4) = some (.cells true (cE e'))) := fun u a bad e e' off val hq hs ho => by
      have st := aStore1_of (x := val) hq.2.2 (by simpa [cE] using ho)
      rw [hs] at st
      exact ⟨_, st, hq.1.set (by omega) (by have := hq.2.1; omega) _, by simpa using hq.2.1, St.get_set_same _ _ _⟩
    have finq : ∀ (u : St) (a : Nat) (bad : Bool) (e : Ent), (Cur s u x bs a bad ∧ u.size = n + 5 ∧ u.get (n + 4) = some (.cells true (cE e))) → EWf e → ∃ τ, getTail (R (d + 9)) [Z (.ptr n 0), Z (.ptr (n + 1) 0), Z (.ptr (n + 3) 0), Z (.ptr (n + 4) 0)] u = some (resE (if bad = false ∧ putE e = some bs then some e else none), τ) ∧ Gr s τ := fun u a bad e hq hw => by
      have := tail_run d hq.1 hx hox (by rw [← hn]; exact hq.2.1) (by rw [← hn]; exact hq.2.2) hw
      rw [← hn] at this
      exact this
    have q12 : Cur s s12 x bs P.2.1 P.2.2 ∧ s12.size = n + 5 ∧ s12.get (n + 4) = some (.cells true (cE e0)) := ⟨cur12, z12, b12⟩
    have hw0 : EWf e0 := by rw [he0]; exact ⟨Int.le_refl 0, (by decide : (0 : Int) < 4294967296)⟩
    obtain ⟨C, hC⟩ : ∃ C, C = (c0.toNat : Int) := ⟨_, rfl⟩
    rw [← hC] at lp0 ag0 hkind w0
    simp only [aLenSl] at hlen
    have hlen' := hx.lenB
    have hnd : ¬ bs = [] := fun e => by rw [e] at hpos; simp at hpos
    by_cases k1 : c0.toNat = 1
    · have d1 : decide (C = 1) = true := decide_eq_true (by omega)
      obtain ⟨s13, e13, q13⟩ := nxq s12 _ _ _ 1073741824 q12 (by decide)
      obtain ⟨I1, hI1⟩ : ∃ I1, I1 = nxt bs 1073741824 P.2.1 P.2.2 := ⟨_, rfl⟩
      rw [← hI1] at e13 q13
      obtain ⟨s14, e14, q14⟩ := nxq s13 _ _ _ 4 q13 (by decide)
      obtain ⟨T1, hT1⟩ : ∃ T1, T1 = nxt bs 4 I1.2.1 I1.2.2 := ⟨_, rfl⟩
      rw [← hT1] at e14 q14
      obtain ⟨s15, e15, q15⟩ := stq s14 _ _ _ { e0 with i := (I1.1 : Nat) } 2 (.int .i64 (I1.1 : Nat)) q14 rfl (by omega)
      obtain ⟨s16, e16, q16⟩ := stq s15 _ _ _ { e0 with i := (I1.1 : Nat), t := (T1.1 : Nat) } 3 (.int .i64 (T1.1 : Nat)) q15 rfl (by omega)
      obtain ⟨s17, e17, q17⟩ := nxq s16 _ _ _ 1099511627776 q16 (by decide)
      obtain ⟨F1, hF1⟩ : ∃ F1, F1 = nxt bs 1099511627776 T1.2.1 T1.2.2 := ⟨_, rfl⟩
      rw [← hF1] at e17 q17
      obtain ⟨s18, e18, q18⟩ := nxq s17 _ _ _ 1099511627776 q17 (by decide)
      obtain ⟨O1, hO1⟩ : ∃ O1, O1 = nxt bs 1099511627776 F1.2.1 F1.2.2 := ⟨_, rfl⟩
      rw [← hO1] at e18 q18
      obtain ⟨s19, e19, q19⟩ := stq s18 _ _ _ { e0 with i := (I1.1 : Nat), t := (T1.1 : Nat), f := (F1.1 : Nat) } 4 (.int .i64 (F1.1 : Nat)) q18 rfl (by omega)
      obtain ⟨s20, e20, q20⟩ := stq s19 _ _ _ { e0 with i := (I1.1 : Nat), t := (T1.1 : Nat), f := (F1.1 : Nat), o := (O1.1 : Nat) } 5 (.int .i64 (O1.1 : Nat)) q19 rfl (by omega)
      obtain ⟨s21, e21, q21⟩ := nxq s20 _ _ _ 4294967295 q20 (by decide)
      obtain ⟨U1, hU1⟩ : ∃ U1, U1 = nxt bs 4294967295 O1.2.1 O1.2.2 := ⟨_, rfl⟩
      have hUl : U1.1 ≤ 4294967295 := by rw [hU1]; exact nxt_le
      rw [← hU1] at e21 q21
      have wU : IntKind.u32.wrap (U1.1 : Int) = (U1.1 : Int) := by rw [wrap32]; omega
      obtain ⟨s22, e22, q22⟩ := stq s21 _ _ _ { e0 with i := (I1.1 : Nat), t := (T1.1 : Nat), f := (F1.1 : Nat), o := (O1.1 : Nat), u := (U1.1 : Nat) } 6 (.int .u32 (U1.1 : Nat)) q21 rfl (by omega)
      obtain ⟨τ, et, gt⟩ := finq s22 _ _ _ q22 ⟨by show (0 : Int) ≤ (U1.1 : Nat); omega, by show ((U1.1 : Nat) : Int) < 4294967296; omega⟩
      have hres : getFields bs c0 = some ({ e0 with i := (I1.1 : Nat), t := (T1.1 : Nat), f := (F1.1 : Nat), o := (O1.1 : Nat), u := (U1.1 : Nat) }, U1.2.2) := by
        unfold getFields
        rw [if_pos k1]
        simp only [← hP, ← hI1, ← hT1, ← hF1, ← hO1, ← hU1, he0]
      rw [hres]
      refine ⟨τ, ?_, gt⟩
      clear nxq stq finq nxr hupd q13 q14 q15 q16 q17 q18 q19 q20 q21 q22
      generalize resE (if U1.2.2 = false ∧ putE { e0 with i := (I1.1 : Nat), t := (T1.1 : Nat), f := (F1.1 : Nat), o := (O1.1 : Nat), u := (U1.1 : Nat) } = some bs then some { e0 with i := (I1.1 : Nat), t := (T1.1 : Nat), f := (F1.1 : Nat), o := (O1.1 : Nat), u := (U1.1 : Nat) } else none) = RES at *
      unfold getTail at et
      generalize R (d + 9) = r at *
      generalize ((P.1 : Nat) : Int) = PV at *
      generalize ((I1.1 : Nat) : Int) = IV at *
      generalize ((T1.1 : Nat) : Int) = TV at *
      generalize ((F1.1 : Nat) : Int) = FV at *
      generalize ((O1.1 : Nat) : Int) = OV at *
      generalize ((U1.1 : Nat) : Int) = UV at *
      have e10' : r 53 [I .u64 1073741824, Z (.ptr n 0), Z (.ptr (n + 2) 0), Z (.ptr (n + 3) 0)] s9 = some (I .i64 PV, s10) := e10
      have e13' : r 53 [I .u64 1073741824, Z (.ptr n 0), Z (.ptr (n + 2) 0), Z (.ptr (n + 3) 0)] s12 = some (I .i64 IV, s13) := e13
      have e14' : r 53 [I .u64 4, Z (.ptr n 0), Z (.ptr (n + 2) 0), Z (.ptr (n + 3) 0)] s13 = some (I .i64 TV, s14) := e14
      have e17' : r 53 [I .u64 1099511627776, Z (.ptr n 0), Z (.ptr (n + 2) 0), Z (.ptr (n + 3) 0)] s16 = some (I .i64 FV, s17) := e17
      have e18' : r 53 [I .u64 1099511627776, Z (.ptr n 0), Z (.ptr (n + 2) 0), Z (.ptr (n + 3) 0)] s17 = some (I .i64 OV, s18) := e18
      have e21' : r 53 [I .u64 4294967295, Z (.ptr n 0), Z (.ptr (n + 2) 0), Z (.ptr (n + 3) 0)] s20 = some (I .i64 UV, s21) := e21
      simpa [nw1, nw2, ld1, hlen', hnd, nw6, nw7, st8, st9, clo, ld9, ix0, lp0, w0, dy, e10', ag0, nw11, st12, ck1, ck2, hkind, d1, e13', e14', e15, e16, e17', e18', e19, e20, e21', wU, e22] using et
    · have d1 : decide (C = 1) = false := decide_eq_false (by omega)
      by_cases k2 : c0.toNat = 2
      · have d2 : decide (C = 2) = true := decide_eq_true (by omega)
        obtain ⟨s13, e13, q13⟩ := nxq s12 _ _ _ 1073741824 q12 (by decide)
        obtain ⟨I1, hI1⟩ : ∃ I1, I1 = nxt bs 1073741824 P.2.1 P.2.2 := ⟨_, rfl⟩
        rw [← hI1] at e13 q13
        obtain ⟨s14, e14, q14⟩ := stq s13 _ _ _ { e0 with i := (I1.1 : Nat) } 2 (.int .i64 (I1.1 : Nat)) q13 rfl (by omega)
        obtain ⟨τ, et, gt⟩ := finq s14 _ _ _ q14 hw0
        have hres : getFields bs c0 = some ({ e0 with i := (I1.1 : Nat) }, I1.2.2) := by
          unfold getFields
          rw [if_neg k1, if_pos k2]
          simp only [← hP, ← hI1, he0]
        rw [hres]
        refine ⟨τ, ?_, gt⟩
        clear nxq stq finq nxr hupd q13 q14
        generalize resE (if I1.2.2 = false ∧ putE { e0 with i := (I1.1 : Nat) } = some bs then some { e0 with i := (I1.1 : Nat) } else none) = RES at *
        unfold getTail at et
        generalize R (d + 9) = r at *
        generalize ((P.1 : Nat) : Int) = PV at *
        generalize ((I1.1 : Nat) : Int) = IV at *
        have e10' : r 53 [I .u64 1073741824, Z (.ptr n 0), Z (.ptr (n + 2) 0), Z (.ptr (n + 3) 0)] s9 = some (I .i64 PV, s10) := e10
        have e13' : r 53 [I .u64 1073741824, Z (.ptr n 0), Z (.ptr (n + 2) 0), Z (.ptr (n + 3) 0)] s12 = some (I .i64 IV, s13) := e13
        simpa [nw1, nw2, ld1, hlen', hnd, nw6, nw7, st8, st9, clo, ld9, ix0, lp0, w0, dy, e10', ag0, nw11, st12, ck1, ck2, hkind, d1, d2, e13', e14] using et
      · have d2 : decide (C = 2) = false := decide_eq_false (by omega)
        by_cases k4 : c0.toNat = 4
        · have d4 : decide (C = 4) = true := decide_eq_true (by omega)
          obtain ⟨s13, e13, q13⟩ := nxq s12 _ _ _ 300 q12 (by decide)
          obtain ⟨M1, hM1⟩ : ∃ M1, M1 = nxt bs 300 P.2.1 P.2.2 := ⟨_, rfl⟩
          have hMl : M1.1 ≤ 300 := by rw [hM1]; exact nxt_le
          rw [← hM1] at e13 q13
          have hat := q13.1.le
          have lb : aLoad1 (Z (.ptr (n + 3) 0)) s13.get = some (B M1.2.2) := by rw [hn]; exact aLoad1_of q13.1.c5 rfl
          have lx : aLoad1 (Z (.ptr n 0)) s13.get = some (Z x) := by rw [hn]; exact aLoad1_of q13.1.c1 rfl
          have la : aLoad1 (Z (.ptr (n + 2) 0)) s13.get = some (I .i64 (M1.2.1 : Nat)) := by rw [hn]; exact aLoad1_of q13.1.c4 rfl
          have l2 : s13.get (n + 1) = some (.cells true (cE ent0)) := by rw [hn]; exact q13.1.c2
          have wsub : IntKind.i64.wrap ((bs.length : Int) - ((M1.2.1 : Nat) : Int)) = (bs.length : Int) - ((M1.2.1 : Nat) : Int) := wrap_in _ (by omega) (by omega)
          have wadd : IntKind.i64.wrap (((M1.2.1 : Nat) : Int) + ((M1.1 : Nat) : Int)) = ((M1.2.1 + M1.1 : Nat) : Int) := by rw [wrap_in _ (by omega) (by omega)]; omega
          have e10' : R (d + 9) 53 [I .u64 1073741824, Z (.ptr n 0), Z (.ptr (n + 2) 0), Z (.ptr (n + 3) 0)] s9 = some (I .i64 ((P.1 : Nat) : Int), s10) := e10
          have e13' : R (d + 9) 53 [I .u64 300, Z (.ptr n 0), Z (.ptr (n + 2) 0), Z (.ptr (n + 3) 0)] s12 = some (I .i64 ((M1.1 : Nat) : Int), s13) := e13
          by_cases hbad : M1.2.2 = true ∨ bs.length < M1.2.1 + M1.1
          · have hres : getFields bs c0 = none := by
              unfold getFields
              rw [if_neg k1, if_neg k2, if_pos k4]
              simp only [← hP, ← hM1]
              rw [if_pos hbad]
            rw [hres]
            have st := store8 (e := ent0) l2 rfl
            have ld := load8 (g := (s13.set (n + 1) (.cells true (cE ent0))).get) (i := n + 1) (e := ent0) (St.get_set_same _ _ _)
            refine ⟨s13.set (n + 1) (.cells true (cE ent0)), ?_, ⟨St.wf_set q13.1.gr.wf (by have := q13.2.1; omega) _, by simpa using q13.1.gr.2.1, fun b hb => by rw [St.get_set_ne _ _ (by omega)]; exact q13.1.gr.2.2 b hb⟩⟩
            clear nxq stq finq nxr hupd q13
            generalize s13.set (n + 1) (.cells true (cE ent0)) = s14 at *
            generalize R (d + 9) = r at *
            cases hb2 : M1.2.2 with
            | true =>
              rw [hb2] at lb
              generalize ((P.1 : Nat) : Int) = PV at *
              generalize ((M1.1 : Nat) : Int) = MV at *
              simp [nw1, nw2, ld1, hlen', hnd, nw6, nw7, st8, st9, clo, ld9, ix0, lp0, w0, dy, e10', ag0, nw11, st12, ck1, ck2, hkind, d1, d2, d4, e13', lb, gtt, agg8, st, ld, rC, rT, retT, allV]
            | false =>
              rw [hb2] at lb hbad
              have hgt : (bs.length : Int) - ((M1.2.1 : Nat) : Int) < ((M1.1 : Nat) : Int) := by
                rcases hbad with h | h
                · cases h
                · omega
              have dgt : decide ((bs.length : Int) - ((M1.2.1 : Nat) : Int) < ((M1.1 : Nat) : Int)) = true := decide_eq_true hgt
              generalize ((P.1 : Nat) : Int) = PV at *
              generalize ((M1.1 : Nat) : Int) = MV at *
              generalize ((M1.2.1 : Nat) : Int) = AV at *
              simp [nw1, nw2, ld1, hlen', hnd, nw6, nw7, st8, st9, clo, ld9, ix0, lp0, w0, dy, e10', ag0, nw11, st12, ck1, ck2, hkind, d1, d2, d4, e13', lb, lx, la, wsub, hgt, agg8, st, ld, rC, rT, retT, allV]
          · have hb2 : M1.2.2 = false := by
              cases h : M1.2.2 with
              | false => rfl
              | true => exact absurd (.inl h) hbad
            have hle : M1.2.1 + M1.1 ≤ bs.length := by
              apply Nat.le_of_not_lt
              exact fun h => hbad (.inr h)
            have hgt : ¬ ((bs.length : Int) - ((M1.2.1 : Nat) : Int) < ((M1.1 : Nat) : Int)) := by omega
            rw [hb2] at lb
            have rx13 : RB s13 x bs := hx.gr hox q13.1.gr
            obtain ⟨y, pc, ry, _⟩ := rx13.piece (lo := M1.2.1) (hi := M1.2.1 + M1.1) (by omega) hle
            have hpl : M1.2.1 + M1.1 - M1.2.1 = M1.1 := by omega
            rw [hpl, Nat.mul_one, Nat.mul_one, U_drop, U_take] at ry
            have ry' : RB s13 y ((bs.drop M1.2.1).take M1.1) := by
              have : ((bs.drop M1.2.1).take M1.1).length = M1.1 := by rw [List.length_take, List.length_drop]; omega
              unfold RB
              rw [this]
              exact ry
            have hstr := ry'.str
            obtain ⟨s14, e14, q14⟩ := stq s13 _ _ _ { e0 with x := (bs.drop M1.2.1).take M1.1 } 7 (.str ((bs.drop M1.2.1).take M1.1)) q13 rfl (by omega)
            obtain ⟨τ, et, gt⟩ := finq s14 _ _ _ q14 hw0
            have hres : getFields bs c0 = some ({ e0 with x := (bs.drop M1.2.1).take M1.1 }, M1.2.2) := by
              unfold getFields
              rw [if_neg k1, if_neg k2, if_pos k4]
              simp only [← hP, ← hM1]
              rw [if_neg hbad, he0]
            rw [hres]
            refine ⟨τ, ?_, gt⟩
            clear nxq stq finq nxr hupd q13 q14
            generalize resE (if M1.2.2 = false ∧ putE { e0 with x := (bs.drop M1.2.1).take M1.1 } = some bs then some { e0 with x := (bs.drop M1.2.1).take M1.1 } else none) = RES at *
            unfold getTail at et
            generalize R (d + 9) = r at *
            generalize (bs.drop M1.2.1).take M1.1 = XX at *
            generalize ((P.1 : Nat) : Int) = PV at *
            generalize ((M1.2.1 + M1.1 : Nat) : Int) = BV at *
            generalize ((M1.1 : Nat) : Int) = MV at *
            generalize ((M1.2.1 : Nat) : Int) = AV at *
            simpa [nw1, nw2, ld1, hlen', hnd, nw6, nw7, st8, st9, clo, ld9, ix0, lp0, w0, dy, e10', ag0, nw11, st12, ck1, ck2, hkind, d1, d2, d4, e13', lb, lx, la, wsub, hgt, wadd, pc, hstr, e14] using et
        · have d4 : decide (C = 4) = false := decide_eq_false (by omega)
          obtain ⟨τ, et, gt⟩ := finq s12 _ _ _ q12 hw0
          have hres : getFields bs c0 = some (e0, P.2.2) := by
            unfold getFields
            rw [if_neg k1, if_neg k2, if_neg k4]
            simp only [← hP, he0]
          rw [hres]
          refine ⟨τ, ?_, gt⟩
          clear nxq stq finq nxr hupd
          generalize resE (if P.2.2 = false ∧ putE e0 = some bs then some e0 else none) = RES at *
          unfold getTail at et
          generalize R (d + 9) = r at *
          generalize ((P.1 : Nat) : Int) = PV at *
          have e10' : r 53 [I .u64 1073741824, Z (.ptr n 0), Z (.ptr (n + 2) 0), Z (.ptr (n + 3) 0)] s9 = some (I .i64 PV, s10) := e10
          simpa [nw1, nw2, ld1, hlen', hnd, nw6, nw7, st8, st9, clo, ld9, ix0, lp0, w0, dy, e10', ag0, nw11, st12, ck1, ck2, hkind, d1, d2, d4] using et
end
end Go.Proofs.YtlhbidbdmdcdeaaGreatDoor

/-
  Frames: what log.Wrap, Open, Frame, All, Read, Meet and Front compute, in any store. No conditions but those named in each line.
-/
namespace Go.Proofs.YtlhbidbdmdcdeaaGreatDoor
open Go Go.Abs Go.Abs.F
set_option linter.unusedVariables false

theorem sumB_append (n : Nat) : ∀ a b : Bs, sumB n (a ++ b) = sumB (sumB n a) b
  | [], b => rfl
  | c :: a, b => sumB_append _ a b

def wrapB (bs : Bs) : Bs := vput bs.length ++ four (sumB 1 (vput bs.length ++ bs)) ++ bs
def openB (bs : Bs) (at_ : Nat) : Option (Bs × Nat) := match vget bs at_ with
  | none => none
  | some (n, to) => if bs.length < to + 4 ∨ bs.length - to - 4 < n then none else
    if (bs.drop at_).take (to + 4 + n - at_) = wrapB ((bs.drop (to + 4)).take n) then some ((bs.drop (to + 4)).take n, to + 4 + n) else none
def frameE (e : Ent) : Option Bs := if mayE e then some (wrapB (putB e)) else none
def framesB : List Ent → Bs
  | [] => []
  | e :: r => wrapB (putB e) ++ framesB r
def allP (l : List Ent) : Bs × Int := if l.all mayE then (if l.length ≤ 2000 then (framesB l, 0) else ([], 8)) else ([], 1)
def readL (bs : Bs) : Nat → Nat → List Ent → List Ent × Nat
  | 0, at_, acc => (acc, at_)
  | f + 1, at_, acc => match openB bs at_ with
    | none => (acc, at_)
    | some (x, to) => match getE x with
      | none => (acc, at_)
      | some e => readL bs f to (acc ++ [e])
def readP (bs : Bs) : List Ent × Nat := readL bs 2000 0 []
def meetP : List Ent → List Ent → Nat
  | a :: r, b :: t => if a = b then meetP r t + 1 else 0
  | _, _ => 0

/-- A slice of entries. -/
abbrev RE (s : St) (x : S) (l : List Ent) : Prop := Rd 8 s x l.length (cells cE l)
abbrev FE (s0 s : St) (x : S) (l : List Ent) : Prop := Fr 8 s0 s x l.length (cells cE l)

section
variable {s t : St} {x y : S} {bs cs : Bs} {i : Nat} {l m : List Ent}

theorem RE.atE (h : RE s x l) {j : Nat} {n : Int} {e : Ent} (hn : n = j) (he : l[j]? = some e) : ∃ p, aIndexSl 8 (Z x) (I .i64 n) = some p ∧ aLoadN 8 p s.get = some (AE e) := by
  obtain ⟨c, p, h1, _, h3⟩ := Rd.at h hn (List.getElem?_eq_some_iff.1 he).1
  rw [cells_row cE_len he] at h3
  exact ⟨_, h1, h3⟩

theorem FE.lit {s0 : St} {e : Ent} (h : FE s0 s x l) (hl : l.length ≤ 1000000) :
    ∃ x' t s', aNew s (nSlice 1 (aFill [.int .i64 0, .int .i64 0, .int .i64 0, .int .i64 0, .int .i64 0, .int .i64 0, .int .u32 0, .str []] [(0, 8, AE e)])) = some (Z (.sl s.size 0 1 (.known 1)), s') ∧ aAppend 8 72 (Z x) (Z (.sl s.size 0 1 (.known 1))) s' = some (Z x', t) ∧ FE s0 t x' (l ++ [e]) ∧ s.size ≤ t.size := by
  have L := Fr.lit 8 h.gr.1 (n := 1) (vs := cells cE [e]) (by simp [cE])
  obtain ⟨x', t, e1, f, hz, k⟩ := (h.gr' L.gr).append (by_ := 72) (by omega) L.rd.src (by simp [cE]) (by omega)
  refine ⟨x', t, _, rfl, e1, ?_, Nat.le_trans L.gr.2.1 hz⟩
  unfold FE
  rw [cells_append, List.length_append]
  exact f

theorem more_run (d : Nat) {q0 : Nat} (hq0 : q0 < 4294967291) (h : RB s x bs) (hl : bs.length ≤ 8000) : R (d + 1) 68 [I .u32 (q0 : Nat), Z x] s = some (I .u32 (sumB q0 bs), s) := by
  rw [f68_run]
  unfold f68
  have hll := h.lenB
  obtain ⟨j, τ, lp, hj, hτ⟩ := loops_inv (f := f68_l1 (R d) 8192) (fun q v u => ∃ k n : Nat, q + k = bs.length ∧ v = [I .u64 n, Z x, I .i64 bs.length, I .i64 k] ∧ u = s ∧ n < 4294967291 ∧ sumB n (bs.drop k) = sumB q0 bs)
    (fun j u => j = .exit 0 [I .u64 (sumB q0 bs)] ∧ u = s) (by
    rintro q v u ⟨k, n, hk, rfl, rfl, hn, hg⟩
    by_cases hkl : k < bs.length
    · left
      have hc : bs[k]? = some bs[k] := List.getElem?_eq_getElem hkl
      have hd : bs.drop k = bs[k] :: bs.drop (k + 1) := List.drop_eq_getElem_cons hkl
      rw [hd] at hg
      obtain ⟨p, ix, ld⟩ := h.atB (n := (k : Int)) rfl hc
      have hcb : bs[k].toNat < 256 := bs[k].toNat_lt
      obtain ⟨A1, A2, A3, A4, hA4, m1, m2, m3, m4⟩ : ∃ A1 A2 A3 A4 : Int, A4 = (((n * 257 + bs[k].toNat + 1) % 4294967291 : Nat) : Int) ∧ aBin .mul (I .u64 n) (I .u64 257) = some (I .u64 A1) ∧ aBin .add (I .u64 A1) (I .u64 bs[k].toNat) = some (I .u64 A2) ∧
          aBin .add (I .u64 A2) (I .u64 1) = some (I .u64 A3) ∧ aBin .rem (I .u64 A3) (I .u64 4294967291) = some (I .u64 A4) := ⟨_, _, _, _, rfl, More.step n bs[k].toNat hn hcb u⟩
      have hw : IntKind.u64.wrap (bs[k].toNat : Int) = (bs[k].toNat : Int) := wrap64 _ (by omega)
      have w1 : IntKind.i64.wrap ((k : Int) + 1) = ((k + 1 : Nat) : Int) := by rw [wrap_in _ (by omega) (by omega)]; omega
      have c0 : ((k : Int) < (bs.length : Int)) = True := eq_true (by omega)
      refine ⟨[I .u64 (((n * 257 + bs[k].toNat + 1) % 4294967291 : Nat)), Z x, I .i64 bs.length, I .i64 ((k + 1 : Nat) : Int)], u, q - 1, ?_, by omega, k + 1, _, by omega, rfl, rfl, Nat.mod_lt _ (by decide), hg⟩
      unfold f68_l1
      generalize ((k + 1 : Nat) : Int) = K1 at w1 ⊢
      rw [← hA4]
      generalize (bs[k].toNat : Int) = C at m2 ld hw
      generalize (k : Int) = K at w1 ix c0 ⊢
      simp only [jn_normal, bd_some, List.getD_cons_zero, List.getD_cons_succ, lss_int, br_true, decide_true, c0, ix, ld, m1, m2, m3, m4, aConv_int, hw, add_int, w1]
    · right
      have hk' : k = bs.length := by omega
      have c0 : ¬ ((k : Int) < (bs.length : Int)) := by omega
      have hg' : n = sumB q0 bs := by
        rw [List.drop_eq_nil_of_le (by omega)] at hg
        exact hg
      refine ⟨.exit 0 [I .u64 (sumB q0 bs)], u, ?_, (fun v hv => by cases hv), rfl, rfl⟩
      unfold f68_l1
      rw [hg']
      simp [c0]) 8192 bs.length [I .u64 (q0 : Nat), Z x, I .i64 bs.length, I .i64 0] s ⟨0, q0, rfl, rfl, rfl, hq0, rfl⟩ (by omega)
  subst hj; subst hτ
  have hlt := sumB_lt bs q0 hq0
  have h32 : IntKind.u32.wrap (sumB q0 bs : Int) = (sumB q0 bs : Int) := by rw [wrap32, Nat.mod_eq_of_lt (by omega)]
  have e1 : aConv .u64 (I .u32 (q0 : Nat)) = some (I .u64 (q0 : Nat)) := by rw [aConv_int, wrap64 _ (by omega)]
  have e2 : aBin .rem (I .u64 (q0 : Nat)) (I .u64 4294967291) = some (I .u64 (q0 : Nat)) := by
    rw [rem_int _ _ _ (by decide), Int.tmod_eq_emod_of_nonneg (by omega), Int.emod_eq_of_lt (by omega) (by omega)]
  simp [e1, e2, hll, lp, h32]

theorem low_run (d : Nat) (wf : s.wf) (q : Nat) : ∃ y t, R (d + 1) 67 [I .u32 q] s = some (Z y, t) ∧ FB s t y (four q) := by
  rw [f67_run]
  unfold f67
  have nw := lit4 s (q % 256) (q / 2 ^ 8 % 256) (q / 2 ^ 16 % 256) (q / 2 ^ 24 % 256)
  have hU : U (four q) = [.int .u8 (q % 256 : Nat), .int .u8 (q / 2 ^ 8 % 256 : Nat), .int .u8 (q / 2 ^ 16 % 256 : Nat), .int .u8 (q / 2 ^ 24 % 256 : Nat)] := by
    simp only [U, four, List.map_cons, List.map_nil, byte_nat]
  rw [← hU] at nw
  have c0 := wrap8 q
  have c1 := wrap8 (q / 2 ^ 8)
  have c2 := wrap8 (q / 2 ^ 16)
  have c3 := wrap8 (q / 2 ^ 24)
  have r1 : aBin .shr (I .u32 q) (I .u64 8) = some (I .u32 ((q / 2 ^ 8 : Nat))) := shr_nat .u32 q 8 (by decide)
  have r2 : aBin .shr (I .u32 q) (I .u64 16) = some (I .u32 ((q / 2 ^ 16 : Nat))) := shr_nat .u32 q 16 (by decide)
  have r3 : aBin .shr (I .u32 q) (I .u64 24) = some (I .u32 ((q / 2 ^ 24 : Nat))) := shr_nat .u32 q 24 (by decide)
  refine ⟨_, _, ?_, Fr.lit 1 wf (n := 4) (vs := U (four q)) rfl⟩
  generalize s.push (.cells true (U (four q))) = t at nw ⊢
  generalize ((q / 2 ^ 8 % 256 : Nat) : Int) = Q1 at nw c1
  generalize ((q / 2 ^ 16 % 256 : Nat) : Int) = Q2 at nw c2
  generalize ((q / 2 ^ 24 % 256 : Nat) : Int) = Q3 at nw c3
  generalize ((q % 256 : Nat) : Int) = Q0 at nw c0
  generalize ((q / 2 ^ 8 : Nat) : Int) = P1 at r1 c1
  generalize ((q / 2 ^ 16 : Nat) : Int) = P2 at r2 c2
  generalize ((q / 2 ^ 24 : Nat) : Int) = P3 at r3 c3
  generalize (q : Int) = Q at *
  simp [c0, c1, c2, c3, r1, r2, r3, nw]

def lenSum : List Bs → Nat
  | [] => 0
  | b :: r => b.length + lenSum r
theorem lenSum_flat : ∀ l : List Bs, l.flatten.length = lenSum l
  | [] => rfl
  | b :: r => by simp [lenSum, lenSum_flat r]
theorem lenSum_snoc : ∀ (l : List Bs) (b : Bs), lenSum (l ++ [b]) = lenSum l + b.length
  | [], b => by simp [lenSum]
  | a :: r, b => by simp [lenSum, lenSum_snoc r b]; omega
theorem lenSum_take (l : List Bs) (k : Nat) : lenSum (l.take k) ≤ lenSum l := by
  induction l generalizing k with
  | nil => simp [lenSum]
  | cons a r ih =>
    cases k with
    | zero => simp [lenSum]
    | succ k => have := ih k; simp [lenSum]; omega

theorem concat_run (d : Nat) (wf : s.wf) {ys : List S} {bss : List Bs} (hx : Rd 1 s x ys.length ys) (hox : ∀ c, own x = some c → c < s.size) (hlen : ys.length = bss.length) (hys : ∀ (j : Nat) y b, ys[j]? = some y → bss[j]? = some b → RB s y b ∧ ∀ c, own y = some c → c < s.size)
    (h0 : 0 < lenSum bss) (hT : lenSum bss ≤ 100000) (hl : ys.length ≤ 100) : ∃ z t, R (d + 2) 66 [Z x] s = some (Z z, t) ∧ FB s t z bss.flatten := by
  rw [f66_run]
  unfold f66
  have hll := hx.lens
  -- the sizes
  obtain ⟨j, τ, lp, hj, hτ⟩ := loops_inv (f := f66_l1 (R (d + 1)) 8192) (fun q v u => ∃ k : Nat, q + k = ys.length ∧ v = [Z x, I .i64 (lenSum (bss.take k) : Nat), Z x, I .i64 ys.length, I .i64 k] ∧ u = s)
    (fun j u => j = .exit 0 [Z x, I .i64 (lenSum bss : Nat)] ∧ u = s) (by
    rintro q v u ⟨k, hk, rfl, rfl⟩
    by_cases hkl : k < ys.length
    · left
      have hc : ys[k]? = some ys[k] := List.getElem?_eq_getElem hkl
      have hb : bss[k]? = some (bss[k]'(by omega)) := List.getElem?_eq_getElem (by omega)
      obtain ⟨p, ix, ld⟩ := Rd.at1 hx (i := (k : Int)) rfl hc
      obtain ⟨ry, _⟩ := hys k _ _ hc hb
      have hyl := ry.lenB
      have htk : bss.take (k + 1) = bss.take k ++ [bss[k]'(by omega)] := by rw [List.take_add_one, hb]; rfl
      have h1 := lenSum_take bss (k + 1)
      have hs : lenSum (bss.take (k + 1)) = lenSum (bss.take k) + (bss[k]'(by omega)).length := by rw [htk, lenSum_snoc]
      have c0 : (k : Int) < (ys.length : Int) := by omega
      have w1 : IntKind.i64.wrap ((k : Int) + 1) = ((k + 1 : Nat) : Int) := by rw [wrap_in _ (by omega) (by omega)]; omega
      have wa : IntKind.i64.wrap ((lenSum (bss.take k) : Nat) + ((bss[k]'(by omega)).length : Int)) = ((lenSum (bss.take (k + 1)) : Nat) : Int) := by rw [wrap_in _ (by omega) (by omega)]; omega
      have c1 : ¬ ((lenSum (bss.take (k + 1)) : Nat) : Int) < 0 := by omega
      refine ⟨[Z x, I .i64 (lenSum (bss.take (k + 1)) : Nat), Z x, I .i64 ys.length, I .i64 ((k + 1 : Nat) : Int)], u, q - 1, ?_, by omega, k + 1, by omega, rfl, rfl⟩
      unfold f66_l1
      generalize ((k + 1 : Nat) : Int) = K1 at w1 ⊢
      generalize ((lenSum (bss.take (k + 1)) : Nat) : Int) = S1 at wa c1 ⊢
      generalize ((lenSum (bss.take k) : Nat) : Int) = S0 at wa ⊢
      generalize ((bss[k]'(by omega)).length : Int) = B1 at *
      generalize (k : Int) = K at *
      generalize (ys.length : Int) = L at *
      simp [c0, ix, ld, hyl, wa, c1, w1]
    · right
      have hk' : k = ys.length := by omega
      subst hk'
      rw [hlen, List.take_length]
      refine ⟨.exit 0 [Z x, I .i64 (lenSum bss : Nat)], u, ?_, (fun v hv => by cases hv), rfl, rfl⟩
      unfold f66_l1
      simp) 8192 ys.length [Z x, I .i64 0, Z x, I .i64 ys.length, I .i64 0] s ⟨0, rfl, by simp [lenSum], rfl⟩ (by omega)
  subst hτ; subst hj
  -- a new row
  obtain ⟨TN, hTd⟩ : ∃ TN, TN = lenSum bss := ⟨_, rfl⟩
  rw [← hTd] at lp h0 hT
  obtain ⟨s1, hs1⟩ : ∃ s1, s1 = τ.push (.cells true (zeros TN [.int .u8 0])) := ⟨_, rfl⟩
  have g1 : Gr τ s1 := by rw [hs1]; exact Gr.push wf _
  have hg : R (d + 1) 86 [Z .nils, I .i64 (TN : Nat)] τ = some (Z (.sl τ.size 0 0 (.grown 1)), s1) := by
    rw [f86_run]
    unfold f86
    have c0 : ¬ ((TN : Nat) : Int) < 0 := by omega
    have c1 : (0 : Int) < ((TN : Nat) : Int) := by omega
    have w0 : IntKind.i64.wrap 0 = 0 := rfl
    have wT : IntKind.i64.wrap ((TN : Nat) : Int) = ((TN : Nat) : Int) := wrap_in _ (by omega) (by omega)
    have cap : aCap (Z .nils) = some (I .i64 0) := rfl
    have pc0 : aPieceSl 1 (Z .nils) none (some (I .i64 0)) none = some (Z .nils) := rfl
    have gr : aGrow 1 1 [.int .u8 0] (Z .nils) (I .i64 ((TN : Nat) : Int)) τ = some (Z (.sl τ.size 0 TN (.grown 1)), s1) := by
      simp only [aGrow, Int.toNat_natCast, hs1]
      rw [if_pos ⟨c1, by omega, by decide⟩]
    have pc1 : aPieceSl 1 (Z (.sl τ.size 0 TN (.grown 1))) none (some (I .i64 0)) none = some (Z (.sl τ.size 0 0 (.grown 1))) := by
      unfold aPieceSl
      dsimp only
      rw [if_pos rfl, show (I .i64 0 : T) = I .i64 ((0 : Nat) : Int) from rfl, aBounds_hi (Nat.zero_le _)]
      dsimp only
      rw [if_pos h0]
    generalize ((TN : Nat) : Int) = TT at *
    simp [c0, cap, w0, wT, c1, pc0, gr, pc1]
  have f1 : FB τ s1 (.sl τ.size 0 0 (.grown 1)) [] := by
    refine ⟨g1, ⟨by simp, .inr (.inr ⟨τ.size, zeros TN [.int .u8 0], _, rfl, .inl rfl, by rw [hs1]; exact St.get_push_same _ _, by simp, by simp [U]⟩)⟩, fun c hc => by cases hc; exact ⟨Nat.le_refl _, by rw [hs1]; simp⟩⟩
  obtain ⟨j, σ, lp2, z, rfl, fz⟩ := loops_inv (f := f66_l2 (R (d + 1)) 8192) (fun q v u => ∃ (k : Nat) (z : S), q + k = ys.length ∧ v = [Z z, Z x, I .i64 ys.length, I .i64 k] ∧ FB τ u z (bss.take k).flatten)
    (fun j u => ∃ z, j = .exit 2 [Z z] ∧ FB τ u z bss.flatten) (by
    rintro q v u ⟨k, z, hk, rfl, hf⟩
    by_cases hkl : k < ys.length
    · left
      have hc : ys[k]? = some ys[k] := List.getElem?_eq_getElem hkl
      have hb : bss[k]? = some (bss[k]'(by omega)) := List.getElem?_eq_getElem (by omega)
      obtain ⟨p, ix, ld⟩ := Rd.at1 (hx.gr hox hf.gr) (i := (k : Int)) rfl hc
      obtain ⟨ry, oy⟩ := hys k _ _ hc hb
      have htk : bss.take (k + 1) = bss.take k ++ [bss[k]'(by omega)] := by rw [List.take_add_one, hb]; rfl
      have h1 := lenSum_take bss (k + 1)
      have hs : lenSum (bss.take (k + 1)) = lenSum (bss.take k) + (bss[k]'(by omega)).length := by rw [htk, lenSum_snoc]
      have c0 : (k : Int) < (ys.length : Int) := by omega
      have w1 : IntKind.i64.wrap ((k : Int) + 1) = ((k + 1 : Nat) : Int) := by rw [wrap_in _ (by omega) (by omega)]; omega
      obtain ⟨z', u', ap, hf', _⟩ := FB.app hf (Rd.gr ry oy hf.gr) (by rw [lenSum_flat]; omega)
      refine ⟨[Z z', Z x, I .i64 ys.length, I .i64 ((k + 1 : Nat) : Int)], u', q - 1, ?_, by omega, k + 1, z', by omega, rfl, by rw [htk, List.flatten_append]; simpa using hf'⟩
      unfold f66_l2
      generalize ((k + 1 : Nat) : Int) = K1 at w1 ⊢
      generalize (k : Int) = K at *
      generalize (ys.length : Int) = L at *
      simp [c0, ix, ld, ap, w1]
    · right
      have hk' : k = ys.length := by omega
      subst hk'
      rw [hlen, List.take_length] at hf
      refine ⟨.exit 2 [Z z], u, ?_, (fun v hv => by cases hv), z, rfl, hf⟩
      unfold f66_l2
      simp) 8192 ys.length [Z (.sl τ.size 0 0 (.grown 1)), Z x, I .i64 ys.length, I .i64 0] s1 ⟨0, _, by omega, rfl, by simpa using f1⟩ (by omega)
  refine ⟨z, σ, ?_, fz⟩
  simp [hll, lp, hg, lp2]

theorem wrap_run (d : Nat) (wf : s.wf) (h : RB s x bs) (hox : ∀ c, own x = some c → c < s.size) (hl : bs.length ≤ 8000) : ∃ z t, R (d + 3) 40 [Z x] s = some (Z z, t) ∧ FB s t z (wrapB bs) := by
  rw [f40_run]
  unfold f40
  have hll := h.lenB
  have w0 : IntKind.u64.wrap (bs.length : Int) = (bs.length : Int) := wrap64 _ (by omega)
  obtain ⟨y1, s1, e1, f1⟩ := vput_run (d + 1) wf bs.length (by omega)
  have hvl := vput_len bs.length
  have e2 := sum_run d f1.rd (by omega)
  have hlt := sumB_lt (vput bs.length) 1 (by decide)
  have rx1 : RB s1 x bs := h.gr hox f1.gr
  have e3 := more_run (d + 1) hlt rx1 hl
  obtain ⟨y4, s4, e4, f4⟩ := low_run (d + 1) f1.gr.wf (sumB (sumB 1 (vput bs.length)) bs)
  have g4 := f1.gr.trans f4.gr
  obtain ⟨s5, hs5⟩ : ∃ s5, s5 = s4.push (.cells true [y1, y4, x]) := ⟨_, rfl⟩
  have nw : aNew s4 (nSlice 3 (aFill [.nils, .nils, .nils] [(0, 1, Z y1), (1, 1, Z y4), (2, 1, Z x)])) = some (Z (.sl s4.size 0 3 (.known 3)), s5) := by rw [hs5]; rfl
  have L := Fr.lit 1 g4.wf (n := 3) (vs := [y1, y4, x]) rfl
  rw [← hs5] at L
  have g5 := g4.trans L.gr
  have r1 : RB s5 y1 (vput bs.length) := (f1.rd.gr (fun c hc => (f1.new c hc).2) f4.gr).gr (fun c hc => Nat.lt_of_lt_of_le (f1.new c hc).2 f4.gr.2.1) L.gr
  have r4 : RB s5 y4 (four (sumB (sumB 1 (vput bs.length)) bs)) := f4.rd.gr (fun c hc => (f4.new c hc).2) L.gr
  have rx : RB s5 x bs := h.gr hox g5
  have hpos : 0 < (vput bs.length).length := by unfold vput putN; split <;> simp
  obtain ⟨z, t, e6, f6⟩ := concat_run d L.gr.wf (ys := [y1, y4, x]) (bss := [vput bs.length, four (sumB (sumB 1 (vput bs.length)) bs), bs]) L.rd (fun c hc => (L.new c hc).2) rfl (fun j y b hy hb => by
    have z5 : s4.size ≤ s5.size := L.gr.2.1
    match j with
    | 0 => simp at hy hb; subst hy; subst hb; exact ⟨r1, fun c hc => by have := (f1.new c hc).2; have := f4.gr.2.1; omega⟩
    | 1 => simp at hy hb; subst hy; subst hb; exact ⟨r4, fun c hc => by have := (f4.new c hc).2; omega⟩
    | 2 => simp at hy hb; subst hy; subst hb; exact ⟨rx, fun c hc => by have := hox c hc; have := g5.2.1; omega⟩
    | j + 3 => simp at hy) (by simp [lenSum]; omega) (by simp [lenSum, four]; omega) (by simp)
  have hw : [vput bs.length, four (sumB (sumB 1 (vput bs.length)) bs), bs].flatten = wrapB bs := by simp [wrapB, sumB_append]
  rw [hw] at f6
  refine ⟨z, t, ?_, f6.from g5⟩
  simp only [Nat.add_assoc, Nat.reduceAdd] at e1 e3 e4
  generalize (bs.length : Int) = BL at *
  simp [hll, w0, e1, e2, e3, e4, nw, e6]
end
end Go.Proofs.YtlhbidbdmdcdeaaGreatDoor

/-
  Frames: what log.Open, Frame, All, Read, Meet and Front compute, in any store. No conditions but those named in each line.
-/
namespace Go.Proofs.YtlhbidbdmdcdeaaGreatDoor
open Go Go.Abs Go.Abs.F
set_option linter.unusedVariables false
section
variable {s t : St} {x y : S} {bs cs : Bs} {i : Nat} {l m : List Ent}

theorem wrapB_len (b : Bs) : (wrapB b).length ≤ b.length + 15 := by
  have := vput_len b.length
  simp [wrapB, four]
  omega

theorem getN_few0 {bs : Bs} {at_ : Nat} : ∀ (f k n : Nat) {r : Nat × Nat}, getN bs at_ f k n = some r → r.2 ≤ at_ + k + f := by
  intro f
  induction f with
  | zero => intro k n r h; cases h
  | succ f ih =>
    intro k n r h
    unfold getN at h
    split at h
    · cases h
    · split at h
      · cases h
      · split at h
        · have := ih _ _ h
          omega
        · split at h
          · cases h
          · cases h
            show at_ + k + 1 ≤ _
            omega
theorem getN_few {bs : Bs} {at_ n to : Nat} (h : vget bs at_ = some (n, to)) : to ≤ at_ + 10 := by
  unfold vget at h
  split at h
  · have := getN_few0 _ _ _ h
    simpa using this
  · cases h

abbrev resO (y : S) (at_ : Nat) (o : Option (Bs × Nat)) : T := match o with
  | some (p, e) => .tup [.s y, .s (.int .i64 (e : Nat)), .s (.bool true)]
  | none => .tup [.s .nils, .s (.int .i64 (at_ : Nat)), .s (.bool false)]

theorem open_run (d : Nat) (wf : s.wf) (h : RB s x bs) (hox : ∀ c, own x = some c → c < s.size) (hl : bs.length ≤ 100000) {at_ : Nat} (ha : at_ ≤ bs.length) (hsm : ∀ n to, vget bs at_ = some (n, to) → bs.length - to - 4 < n ∨ n ≤ 7900) :
    ∃ y t, R (d + 4) 41 [Z x, I .i64 (at_ : Nat)] s = some (resO y at_ (openB bs at_), t) ∧ Gr s t ∧ ∀ p e, openB bs at_ = some (p, e) → RB t y p ∧ (∀ c, own y = some c → c < t.size) ∧ e ≤ bs.length ∧ p.length ≤ 7900 := by
  rw [f41_run]
  unfold f41
  have hll := h.lenB
  have e1 := vget_run (d + 2) h hl (at_ := at_) (by omega)
  simp only [Nat.add_assoc, Nat.reduceAdd] at e1
  cases hv : vget bs at_ with
  | none =>
    rw [hv] at e1
    simp only [vres, if_pos ha] at e1
    have ho : openB bs at_ = none := by unfold openB; rw [hv]
    rw [ho]
    refine ⟨.nils, s, ?_, Gr.refl wf, fun p e hh => by cases hh⟩
    simp [e1, aExtract, gtt, retT, allV]
  | some p =>
    obtain ⟨n, to⟩ := p
    rw [hv] at e1
    simp only [vres] at e1
    obtain ⟨hv1, hv2⟩ := vget_lt hv
    have hsn := hsm n to hv
    have w1 : IntKind.i64.wrap ((bs.length : Int) - ((to : Nat) : Int)) = (bs.length : Int) - ((to : Nat) : Int) := wrap_in _ (by omega) (by omega)
    by_cases c1 : bs.length < to + 4
    · have ho : openB bs at_ = none := by unfold openB; rw [hv]; simp only; rw [if_pos (.inl c1)]
      rw [ho]
      have k1 : (bs.length : Int) - ((to : Nat) : Int) < 4 := by omega
      refine ⟨.nils, s, ?_, Gr.refl wf, fun p e hh => by cases hh⟩
      simp [e1, aExtract, hll, w1, k1, gtt, retT, allV]
    · have k1 : ¬ (bs.length : Int) - ((to : Nat) : Int) < 4 := by omega
      have w2 : IntKind.i64.wrap ((bs.length : Int) - ((to : Nat) : Int) - 4) = (bs.length : Int) - ((to : Nat) : Int) - 4 := wrap_in _ (by omega) (by omega)
      have w3 : IntKind.u64.wrap ((bs.length : Int) - ((to : Nat) : Int) - 4) = (bs.length : Int) - ((to : Nat) : Int) - 4 := wrap_u64_in _ (by omega) (by omega)
      by_cases c2 : bs.length - to - 4 < n
      · have ho : openB bs at_ = none := by unfold openB; rw [hv]; simp only; rw [if_pos (.inr c2)]
        rw [ho]
        have k2 : (bs.length : Int) - ((to : Nat) : Int) - 4 < ((n : Nat) : Int) := by omega
        refine ⟨.nils, s, ?_, Gr.refl wf, fun p e hh => by cases hh⟩
        simp [e1, aExtract, hll, w1, k1, w2, w3, k2, retT, allV]
      · have k2 : ¬ (bs.length : Int) - ((to : Nat) : Int) - 4 < ((n : Nat) : Int) := by omega
        have w4 : IntKind.i64.wrap (((to : Nat) : Int) + 4) = ((to + 4 : Nat) : Int) := by rw [wrap_in _ (by omega) (by omega)]; omega
        have w5 : IntKind.i64.wrap ((n : Nat) : Int) = ((n : Nat) : Int) := wrap_in _ (by omega) (by omega)
        have w6 : IntKind.i64.wrap (((to + 4 : Nat) : Int) + ((n : Nat) : Int)) = ((to + 4 + n : Nat) : Int) := by rw [wrap_in _ (by omega) (by omega)]; omega
        have piece : ∀ lo hi : Nat, lo ≤ hi → hi ≤ bs.length → ∃ y, aPieceSl 1 (Z x) (some (I .i64 (lo : Nat))) (some (I .i64 (hi : Nat))) none = some (Z y) ∧ RB s y ((bs.drop lo).take (hi - lo)) ∧ (own y = none ∨ own y = own x) := fun lo hi h1 h2 => by
          obtain ⟨y, a, b, c⟩ := Rd.piece h (lo := lo) (hi := hi) h1 h2
          refine ⟨y, a, ?_, c⟩
          rw [Nat.mul_one, Nat.mul_one, U_drop, U_take] at b
          have : ((bs.drop lo).take (hi - lo)).length = hi - lo := by rw [List.length_take, List.length_drop]; omega
          unfold RB
          rw [this]
          exact b
        obtain ⟨y1, p1, r1, o1⟩ := piece (to + 4) (to + 4 + n) (by omega) (by omega)
        obtain ⟨y2, p2, r2, o2⟩ := piece at_ (to + 4 + n) (by omega) (by omega)
        rw [show to + 4 + n - (to + 4) = n by omega] at r1
        have hn7 : n ≤ 7900 := hsn.resolve_left c2
        have hpl : ((bs.drop (to + 4)).take n).length ≤ 7900 := by rw [List.length_take]; omega
        have ho1 : ∀ c, own y1 = some c → c < s.size := fun c hc => by
          rcases o1 with e | e
          · rw [e] at hc; cases hc
          · rw [e] at hc; exact hox c hc
        have ho2 : ∀ c, own y2 = some c → c < s.size := fun c hc => by
          rcases o2 with e | e
          · rw [e] at hc; cases hc
          · rw [e] at hc; exact hox c hc
        obtain ⟨z, t, e3, f3⟩ := wrap_run d wf r1 ho1 (by omega)
        have r2' : RB t y2 ((bs.drop at_).take (to + 4 + n - at_)) := r2.gr ho2 f3.gr
        have eq : R (d + 3) 70 [Z y2, Z z] t = some (B (decide ((bs.drop at_).take (to + 4 + n - at_) = wrapB ((bs.drop (to + 4)).take n))), t) := by
          by_cases hlong : ((bs.drop at_).take (to + 4 + n - at_)).length ≤ 8000
          · exact equal_run (d + 2) r2' f3.rd hlong
          · exfalso
            rw [List.length_take, List.length_drop] at hlong
            have := getN_few hv
            omega
        have hop : openB bs at_ = if (bs.drop at_).take (to + 4 + n - at_) = wrapB ((bs.drop (to + 4)).take n) then some ((bs.drop (to + 4)).take n, to + 4 + n) else none := by
          unfold openB
          rw [hv]
          simp only
          rw [if_neg (fun hh => hh.elim c1 c2)]
        rw [hop]
        by_cases he : (bs.drop at_).take (to + 4 + n - at_) = wrapB ((bs.drop (to + 4)).take n)
        · rw [if_pos he]
          rw [decide_eq_true he] at eq
          refine ⟨y1, t, ?_, f3.gr, fun p e hh => by
            cases hh
            exact ⟨r1.gr ho1 f3.gr, fun c hc => Nat.lt_of_lt_of_le (ho1 c hc) f3.gr.2.1, by omega, hpl⟩⟩
          show _ = some (T.tup [.s y1, .s (.int .i64 ((to + 4 + n : Nat) : Int)), .s (.bool true)], t)
          generalize ((to + 4 + n : Nat) : Int) = E1 at *
          generalize ((to + 4 : Nat) : Int) = E0 at *
          generalize R (d + 3) = r at *
          simp [e1, aExtract, hll, w1, k1, w2, w3, k2, w4, w5, w6, p1, p2, e3, eq, retT, allV]
        · rw [if_neg he]
          rw [decide_eq_false he] at eq
          refine ⟨y1, t, ?_, f3.gr, fun p e hh => by cases hh⟩
          generalize ((to + 4 + n : Nat) : Int) = E1 at *
          generalize ((to + 4 : Nat) : Int) = E0 at *
          generalize R (d + 3) = r at *
          simp [e1, aExtract, hll, w1, k1, w2, w3, k2, w4, w5, w6, p1, p2, e3, eq, retT, allV]

abbrev resF (y : S) (o : Option Bs) : T := match o with
  | some b => .tup [.s y, .s (.int .i64 0)]
  | none => .tup [.s .nils, .s (.int .i64 1)]

theorem frame_run (d : Nat) (wf : s.wf) (e : Ent) (hw : EWf e) : ∃ y t, R (d + 10) 14 [AE e] s = some (resF y (frameE e), t) ∧ Gr s t ∧ ∀ b, frameE e = some b → FB s t y b := by
  rw [f14_run]
  unfold f14
  obtain ⟨s1, hs1⟩ : ∃ s1, s1 = s.push (.cells true (cE e)) := ⟨_, rfl⟩
  have nw1 : aNew s (nBox (AE e)) = some (Z (.ptr s.size 0), s1) := by rw [hs1]; rfl
  have g1 : Gr s s1 := by rw [hs1]; exact Gr.push wf _
  have h1 : s1.get s.size = some (.cells true (cE e)) := by rw [hs1]; exact St.get_push_same _ _
  have l8 := load8 (g := s1.get) h1
  cases hm : mayE e with
  | false =>
    obtain ⟨s2, e2, g2⟩ := put_bad d g1.wf hm
    have hf : frameE e = none := by simp [frameE, hm]
    rw [hf]
    refine ⟨.nils, s2, ?_, g1.trans g2, fun b hb => by cases hb⟩
    simp [nw1, l8, e2, aExtract, retT, allV]
  | true =>
    obtain ⟨y, s2, e2, f2⟩ := put_run d g1.wf hm hw
    obtain ⟨z, s3, e3, f3⟩ := wrap_run (d + 6) f2.gr.wf f2.rd (fun c hc => (f2.new c hc).2) (by have := putB_len (mayE_x hm); omega)
    have hf : frameE e = some (wrapB (putB e)) := by simp [frameE, hm]
    rw [hf]
    refine ⟨z, s3, ?_, (g1.trans f2.gr).trans f3.gr, fun b hb => by cases hb; exact f3.from (g1.trans f2.gr)⟩
    simp only [Nat.add_assoc, Nat.reduceAdd] at e3
    simp [nw1, l8, e2, aExtract, e3, retT, allV]

theorem frameE_len {e : Ent} {b : Bs} (h : frameE e = some b) : b.length ≤ 415 := by
  unfold frameE at h
  split at h
  · rename_i hm
    cases h
    have := putB_len (mayE_x hm)
    have := wrapB_len (putB e)
    omega
  · cases h

theorem framesB_snoc : ∀ (l : List Ent) (e : Ent), framesB (l ++ [e]) = framesB l ++ wrapB (putB e)
  | [], e => by simp [framesB]
  | a :: r, e => by simp [framesB, framesB_snoc r e]

theorem all_take {l : List Ent} (k : Nat) (h : l.all mayE = true) : (l.take k).all mayE = true := by
  rw [List.all_eq_true] at h ⊢
  exact fun x hx => h x (List.mem_of_mem_take hx)

theorem all_split (l : List Ent) (k : Nat) (e : Ent) (hk : l[k]? = some e) (h : (l.take k).all mayE = true) : (mayE e = false → l.all mayE = false) ∧ (mayE e = true → (l.take (k + 1)).all mayE = true) := by
  constructor
  · intro he
    rw [Bool.eq_false_iff]
    intro ha
    rw [List.all_eq_true] at ha
    rw [ha e (List.mem_of_getElem? hk)] at he
    cases he
  · intro he
    rw [List.take_add_one, hk, Option.toList_some, List.all_append, h]
    simp [he]

theorem framesB_len : ∀ l : List Ent, l.all mayE = true → (framesB l).length ≤ 415 * l.length
  | [], _ => by simp [framesB]
  | e :: r, h => by
    simp only [List.all_cons, Bool.and_eq_true] at h
    have h1 := framesB_len r h.2
    have h2 : (wrapB (putB e)).length ≤ 415 := frameE_len (e := e) (by simp [frameE, h.1])
    simp [framesB]
    omega

abbrev resA (y : S) (p : Bs × Int) : T := .tup [.s y, .s (.int .i64 p.2)]

theorem all_run (d : Nat) (wf : s.wf) (h : RE s x l) (hox : ∀ c, own x = some c → c < s.size) (hw : ∀ e ∈ l, EWf e) (hl : l.length ≤ 2400) : ∃ y t, R (d + 11) 15 [Z x] s = some (resA y (allP l), t) ∧ FB s t y (allP l).1 := by
  rw [f15_run]
  unfold f15
  have hll := h.lens
  -- one element, copied and framed
  have step : ∀ (u : St) (k : Nat), Gr s u → ∀ (hk : k < l.length), ∃ p u1, (aIndexSl 8 (Z x) (I .i64 (k : Nat)) = some p ∧ aLoadN 8 p u.get = some (AE l[k])) ∧
      (∃ u0, aNew u (nCells [.int .i64 0, .int .i64 0, .int .i64 0, .int .i64 0, .int .i64 0, .int .i64 0, .int .u32 0, .str []]) = some (Z (.ptr u.size 0), u0) ∧ aStore 8 (Z (.ptr u.size 0)) (AE l[k]) u0 = some (tt, u1)) ∧ aLoadN 8 (Z (.ptr u.size 0)) u1.get = some (AE l[k]) ∧ Gr u u1 := fun u k g hk => by
    have hr : RE u x l := h.gr hox g
    obtain ⟨p, ix, ld⟩ := RE.atE hr (n := ((k : Nat) : Int)) rfl (List.getElem?_eq_getElem hk)
    obtain ⟨u0, hu0⟩ : ∃ u0, u0 = u.push (.cells true (cE ent0)) := ⟨_, rfl⟩
    have b0 : u0.get u.size = some (.cells true (cE ent0)) := by rw [hu0]; exact St.get_push_same _ _
    have st := store8 (e := l[k]) b0 rfl
    have g0 : Gr u u0 := by rw [hu0]; exact Gr.push g.wf _
    refine ⟨p, _, ⟨ix, ld⟩, ⟨u0, by rw [hu0]; rfl, st⟩, load8 (St.get_set_same _ _ _), ⟨St.wf_set g0.wf (by rw [hu0]; simp) _, by simpa using g0.2.1, fun b hb => by rw [St.get_set_ne _ _ (by omega)]; exact g0.2.2 b hb⟩⟩
  by_cases hbig : 2000 < l.length
  · have c0 : (2000 : Int) < (l.length : Int) := by omega
    obtain ⟨j, τ, lp, hj, gτ⟩ := loops_inv (f := f15_l1 (R (d + 10)) 8192) (fun q v u => ∃ k : Nat, q + k = l.length ∧ v = [Z x, I .i64 l.length, I .i64 k] ∧ Gr s u ∧ (l.take k).all mayE = true)
      (fun j u => (j = .exit 0 [] ∧ l.all mayE = true ∨ j = .ret (.tup [.s .nils, .s (.int .i64 1)]) ∧ l.all mayE = false) ∧ Gr s u) (by
      rintro q v u ⟨k, hk, rfl, g, ha⟩
      by_cases hkl : k < l.length
      · obtain ⟨p, u1, ⟨ix, ld⟩, ⟨u0, nw, st⟩, ld2, g1⟩ := step u k g hkl
        have hm := all_split l k l[k] (List.getElem?_eq_getElem hkl) ha
        obtain ⟨y, u2, e2, g2, f2⟩ := frame_run d (g.trans g1).wf l[k] (hw _ (List.getElem_mem hkl))
        have c1 : (k : Int) < (l.length : Int) := by omega
        have w1 : IntKind.i64.wrap ((k : Int) + 1) = ((k + 1 : Nat) : Int) := by rw [wrap_in _ (by omega) (by omega)]; omega
        cases hme : mayE l[k] with
        | true =>
          left
          have hf : frameE l[k] = some (wrapB (putB l[k])) := by simp [frameE, hme]
          rw [hf] at e2
          refine ⟨[Z x, I .i64 l.length, I .i64 ((k + 1 : Nat) : Int)], u2, q - 1, ?_, by omega, k + 1, by omega, rfl, (g.trans g1).trans g2, hm.2 hme⟩
          unfold f15_l1
          generalize ((k + 1 : Nat) : Int) = K1 at w1 ⊢
          generalize (k : Int) = K at *
          generalize (l.length : Int) = L at *
          generalize R (d + 10) = r at *
          simp [c1, ix, ld, nw, st, ld2, e2, aExtract, w1]
        | false =>
          right
          have hf : frameE l[k] = none := by simp [frameE, hme]
          rw [hf] at e2
          refine ⟨.ret (.tup [.s .nils, .s (.int .i64 1)]), u2, ?_, (fun v hv => by cases hv), .inr ⟨rfl, hm.1 hme⟩, (g.trans g1).trans g2⟩
          unfold f15_l1
          generalize (k : Int) = K at *
          generalize (l.length : Int) = L at *
          generalize R (d + 10) = r at *
          simp [c1, ix, ld, nw, st, ld2, e2, aExtract, retT, allV]
      · right
        have hk' : k = l.length := by omega
        subst hk'
        rw [List.take_length] at ha
        refine ⟨.exit 0 [], u, ?_, (fun v hv => by cases hv), .inl ⟨rfl, ha⟩, g⟩
        unfold f15_l1
        simp) 8192 l.length [Z x, I .i64 l.length, I .i64 0] s ⟨0, rfl, rfl, Gr.refl wf, by simp⟩ (by omega)
    have fn : FB s τ .nils [] := ⟨gτ, by simpa [U] using Ow.nil 1 τ, fun c hc => by cases hc⟩
    rcases hj with ⟨rfl, ha⟩ | ⟨rfl, ha⟩
    · have hp : allP l = ([], 8) := by unfold allP; rw [if_pos ha, if_neg (by omega)]
      rw [hp]
      refine ⟨.nils, τ, ?_, fn⟩
      generalize (l.length : Int) = L at *
      simp [hll, c0, lp, retT, allV]
    · have hp : allP l = ([], 1) := by unfold allP; rw [if_neg (by simp [ha])]
      rw [hp]
      refine ⟨.nils, τ, ?_, fn⟩
      generalize (l.length : Int) = L at *
      simp [hll, c0, lp]
  · have c0 : ¬ (2000 : Int) < (l.length : Int) := by omega
    obtain ⟨j, τ, lp, hj⟩ := loops_inv (f := f15_l2 (R (d + 10)) 8192) (fun q v u => ∃ (k : Nat) (z : S), q + k = l.length ∧ v = [Z z, Z x, I .i64 l.length, I .i64 k] ∧ FB s u z (framesB (l.take k)) ∧ (l.take k).all mayE = true)
      (fun j u => (∃ z, j = .exit 2 [Z z] ∧ FB s u z (framesB l) ∧ l.all mayE = true) ∨ j = .ret (.tup [.s .nils, .s (.int .i64 1)]) ∧ l.all mayE = false ∧ Gr s u) (by
      rintro q v u ⟨k, z, hk, rfl, f, ha⟩
      by_cases hkl : k < l.length
      · obtain ⟨p, u1, ⟨ix, ld⟩, ⟨u0, nw, st⟩, ld2, g1⟩ := step u k f.gr hkl
        have hm := all_split l k l[k] (List.getElem?_eq_getElem hkl) ha
        obtain ⟨y, u2, e2, g2, f2⟩ := frame_run d (f.gr.trans g1).wf l[k] (hw _ (List.getElem_mem hkl))
        have c1 : (k : Int) < (l.length : Int) := by omega
        have w1 : IntKind.i64.wrap ((k : Int) + 1) = ((k + 1 : Nat) : Int) := by rw [wrap_in _ (by omega) (by omega)]; omega
        cases hme : mayE l[k] with
        | true =>
          left
          have hf : frameE l[k] = some (wrapB (putB l[k])) := by simp [frameE, hme]
          rw [hf] at e2
          have hfl := frameE_len hf
          have hal := framesB_len _ ha
          rw [List.length_take] at hal
          obtain ⟨z2, u3, ap, f3, _⟩ := FB.app ((f.gr' g1).gr' g2) (f2 _ hf).rd (by omega)
          have htk : l.take (k + 1) = l.take k ++ [l[k]] := by rw [List.take_add_one, List.getElem?_eq_getElem hkl]; rfl
          refine ⟨[Z z2, Z x, I .i64 l.length, I .i64 ((k + 1 : Nat) : Int)], u3, q - 1, ?_, by omega, k + 1, z2, by omega, rfl, by rw [htk, framesB_snoc]; exact f3, hm.2 hme⟩
          unfold f15_l2
          generalize ((k + 1 : Nat) : Int) = K1 at w1 ⊢
          generalize (k : Int) = K at *
          generalize (l.length : Int) = L at *
          generalize R (d + 10) = r at *
          simp [c1, ix, ld, nw, st, ld2, e2, aExtract, ap, w1]
        | false =>
          right
          have hf : frameE l[k] = none := by simp [frameE, hme]
          rw [hf] at e2
          refine ⟨.ret (.tup [.s .nils, .s (.int .i64 1)]), u2, ?_, (fun v hv => by cases hv), .inr ⟨rfl, hm.1 hme, (f.gr.trans g1).trans g2⟩⟩
          unfold f15_l2
          generalize (k : Int) = K at *
          generalize (l.length : Int) = L at *
          generalize R (d + 10) = r at *
          simp [c1, ix, ld, nw, st, ld2, e2, aExtract, retT, allV]
      · right
        have hk' : k = l.length := by omega
        subst hk'
        rw [List.take_length] at ha f
        refine ⟨.exit 2 [Z z], u, ?_, (fun v hv => by cases hv), .inl ⟨z, rfl, f, ha⟩⟩
        unfold f15_l2
        simp) 8192 l.length [Z .nils, Z x, I .i64 l.length, I .i64 0] s ⟨0, .nils, by omega, rfl, by simpa [framesB, FB, U] using Fr.nil 1 wf, by simp⟩ (by omega)
    rcases hj with ⟨z, rfl, f, ha⟩ | ⟨rfl, ha, g⟩
    · have hp : allP l = (framesB l, 0) := by unfold allP; rw [if_pos ha, if_pos (by omega)]
      rw [hp]
      refine ⟨z, τ, ?_, f⟩
      generalize (l.length : Int) = L at *
      simp [hll, c0, lp, retT, allV]
    · have hp : allP l = ([], 1) := by unfold allP; rw [if_neg (by simp [ha])]
      rw [hp]
      refine ⟨.nils, τ, ?_, ⟨g, by simpa [U] using Ow.nil 1 τ, fun c hc => by cases hc⟩⟩
      generalize (l.length : Int) = L at *
      simp [hll, c0, lp]

/-! ### Meet, Front -/

theorem meetP_le : ∀ a b : List Ent, meetP a b ≤ a.length ∧ meetP a b ≤ b.length
  | [], b => by simp [meetP]
  | a :: r, [] => by simp [meetP]
  | a :: r, b :: t => by
    have := meetP_le r t
    unfold meetP
    split <;> simp <;> omega

theorem meetP_drop (a b : List Ent) (k : Nat) (ha : k ≤ a.length) (hb : k ≤ b.length) (h : ∀ j, j < k → a[j]? = b[j]?) : meetP a b = k + meetP (a.drop k) (b.drop k) := by
  induction k generalizing a b with
  | zero => simp
  | succ k ih =>
    cases a with
    | nil => simp at ha
    | cons x a => cases b with
      | nil => simp at hb
      | cons y b =>
        have h0 := h 0 (by omega)
        simp at h0
        subst h0
        have := ih a b (by simpa using ha) (by simpa using hb) fun j hj => by simpa using h (j + 1) (by omega)
        show (if x = x then _ else _) = _
        rw [if_pos rfl, this, List.drop_succ_cons, List.drop_succ_cons]
        omega

theorem meet_run (d : Nat) (wf : s.wf) (h : RE s x l) (hox : ∀ c, own x = some c → c < s.size) (k : RE s y m) (hoy : ∀ c, own y = some c → c < s.size) (hl : l.length ≤ 8000) : ∃ t, R (d + 2) 25 [Z x, Z y] s = some (I .i64 (meetP l m : Nat), t) ∧ Gr s t := by
  rw [f25_run]
  unfold f25
  have hll := h.lens
  have kll := k.lens
  obtain ⟨j, τ, lp, hj, gτ⟩ := loops_inv (f := f25_l1 (R (d + 1)) 8192) (fun q v u => ∃ n : Nat, q + n = l.length ∧ n ≤ m.length ∧ v = [Z x, Z y, I .i64 n] ∧ Gr s u ∧ ∀ j, j < n → l[j]? = m[j]?)
    (fun j u => j = .exit 0 [I .i64 (meetP l m : Nat)] ∧ Gr s u) (by
    rintro q v u ⟨n, hn, hnm, rfl, g, heq⟩
    have hd := meetP_drop l m n (by omega) hnm heq
    have hmin : min ((l.length : Nat) : Int) ((m.length : Nat) : Int) = ((min l.length m.length : Nat) : Int) := by omega
    by_cases hc : n < l.length ∧ n < m.length
    · have hla : l[n]? = some l[n] := List.getElem?_eq_getElem hc.1
      have hma : m[n]? = some (m[n]'hc.2) := List.getElem?_eq_getElem hc.2
      obtain ⟨p, ix, ld⟩ := RE.atE (h.gr hox g) (n := (n : Int)) rfl hla
      obtain ⟨p', ix', ld'⟩ := RE.atE (k.gr hoy g) (n := (n : Int)) rfl hma
      obtain ⟨u1, e1, g1⟩ := same_run d g.wf l[n] (m[n]'hc.2)
      have c0 : (n : Int) < ((min l.length m.length : Nat) : Int) := by omega
      have hdl : l.drop n = l[n] :: l.drop (n + 1) := List.drop_eq_getElem_cons hc.1
      have hdm : m.drop n = (m[n]'hc.2) :: m.drop (n + 1) := List.drop_eq_getElem_cons hc.2
      by_cases he : l[n] = m[n]'hc.2
      · left
        have w1 : IntKind.i64.wrap ((n : Int) + 1) = ((n + 1 : Nat) : Int) := by rw [wrap_in _ (by omega) (by omega)]; omega
        rw [decide_eq_true he] at e1
        refine ⟨[Z x, Z y, I .i64 ((n + 1 : Nat) : Int)], u1, q - 1, ?_, by omega, n + 1, by omega, by omega, rfl, g.trans g1, fun j hj => ?_⟩
        · unfold f25_l1
          generalize ((n + 1 : Nat) : Int) = N1 at w1 ⊢
          generalize ((min l.length m.length : Nat) : Int) = MM at *
          generalize (n : Int) = NN at *
          generalize R (d + 1) = r at *
          simp [hll, kll, hmin, c0, ix, ix', ld, ld', e1, w1]
        · by_cases hjn : j = n
          · subst hjn; rw [hla, hma, he]
          · exact heq j (by omega)
      · right
        rw [decide_eq_false he] at e1
        have hm0 : meetP l m = n := by
          rw [hd, hdl, hdm]
          show n + (if l[n] = m[n]'hc.2 then _ else 0) = n
          rw [if_neg he]; rfl
        refine ⟨.exit 0 [I .i64 (meetP l m : Nat)], u1, ?_, (fun v hv => by cases hv), rfl, g.trans g1⟩
        unfold f25_l1
        rw [hm0]
        generalize ((min l.length m.length : Nat) : Int) = MM at *
        generalize (n : Int) = NN at *
        generalize R (d + 1) = r at *
        simp [hll, kll, hmin, c0, ix, ix', ld, ld', e1]
    · right
      have c0 : ¬ (n : Int) < ((min l.length m.length : Nat) : Int) := by omega
      have hm0 : meetP l m = n := by
        rw [hd]
        by_cases h1 : n = l.length
        · rw [h1, List.drop_length]; simp [meetP]
        · have : n = m.length := by omega
          rw [this, List.drop_length]
          cases l.drop m.length <;> simp [meetP]
      refine ⟨.exit 0 [I .i64 (meetP l m : Nat)], u, ?_, (fun v hv => by cases hv), rfl, g⟩
      unfold f25_l1
      rw [hm0]
      generalize ((min l.length m.length : Nat) : Int) = MM at *
      generalize (n : Int) = NN at *
      simp [hll, kll, hmin, c0, gtt]) 8192 l.length [Z x, Z y, I .i64 0] s ⟨0, rfl, by omega, rfl, Gr.refl wf, fun j hj => by omega⟩ (by omega)
  subst hj
  exact ⟨τ, by simp [lp], gτ⟩

theorem front_run (d : Nat) (wf : s.wf) (h : RE s x l) (hox : ∀ c, own x = some c → c < s.size) (k : RE s y m) (hoy : ∀ c, own y = some c → c < s.size) (hl : l.length ≤ 8000) : ∃ t, R (d + 3) 23 [Z x, Z y] s = some (B (decide (meetP l m = l.length)), t) ∧ Gr s t := by
  rw [f23_run]
  unfold f23
  obtain ⟨t, e1, g1⟩ := meet_run d wf h hox k hoy hl
  have hll := h.lens
  have hd : decide (((meetP l m : Nat) : Int) = ((l.length : Nat) : Int)) = decide (meetP l m = l.length) := decide_eq_decide.2 (by omega)
  refine ⟨t, ?_, g1⟩
  generalize ((meetP l m : Nat) : Int) = M at *
  generalize ((l.length : Nat) : Int) = L at *
  simp only [e1, bd2_some, hll, bd_some, eql_int, hd]
end
end Go.Proofs.YtlhbidbdmdcdeaaGreatDoor

/-
  Frames: what log.Read computes, in any store. No conditions but those named in each line.
-/
namespace Go.Proofs.YtlhbidbdmdcdeaaGreatDoor
open Go Go.Abs Go.Abs.F
set_option linter.unusedVariables false
section
variable {s t : St} {x y : S} {bs cs : Bs} {i : Nat} {l m : List Ent}

theorem openB_le {a e : Nat} {p : Bs} (h : openB bs a = some (p, e)) : e ≤ bs.length := by
  unfold openB at h
  split at h
  · cases h
  · split at h
    · cases h
    · split at h
      · cases h; omega
      · cases h

abbrev resR (y : S) (p : List Ent × Nat) : T := .tup [.s y, .s (.int .i64 (p.2 : Nat))]

theorem read_run (d : Nat) (wf : s.wf) (h : RB s x bs) (hox : ∀ c, own x = some c → c < s.size) (hl : bs.length ≤ 100000) (V : Nat → Prop) (v0 : V 0) (v1 : ∀ a p e, V a → openB bs a = some (p, e) → V e)
    (v2 : ∀ a n to, V a → vget bs a = some (n, to) → bs.length - to - 4 < n ∨ n ≤ 7900) :
    ∃ y t, R (d + 11) 16 [Z x] s = some (resR y (readP bs), t) ∧ FE s t y (readP bs).1 := by
  rw [f16_run]
  unfold f16
  obtain ⟨j, τ, lp, z, hj, f⟩ := loops_inv (f := f16_l1 (R (d + 10)) 8192) (fun q v u => ∃ (at_ : Nat) (z : S) (acc : List Ent), q + acc.length = 2000 ∧ v = [Z x, Z z, I .i64 (at_ : Nat)] ∧ FE s u z acc ∧ V at_ ∧ at_ ≤ bs.length ∧ readL bs q at_ acc = readP bs)
    (fun j u => ∃ z, j = .exit 0 [Z z, I .i64 ((readP bs).2 : Nat)] ∧ FE s u z (readP bs).1) (by
    rintro q v u ⟨at_, z, acc, hq, rfl, f, hv, ha, hr⟩
    have hll := f.rd.lens
    by_cases hc : acc.length < 2000
    · obtain ⟨q', rfl⟩ : ∃ q', q = q' + 1 := ⟨q - 1, by omega⟩
      obtain ⟨y, u1, e1, g1, o1⟩ := open_run (d + 6) f.gr.wf (h.gr hox f.gr) (fun c hc => Nat.lt_of_lt_of_le (hox c hc) f.gr.2.1) hl ha (fun n to => v2 at_ n to hv)
      simp only [Nat.add_assoc, Nat.reduceAdd] at e1
      have c0 : ((acc.length : Nat) : Int) < 2000 := by omega
      unfold readL at hr
      cases ho : openB bs at_ with
      | none =>
        rw [ho] at e1 hr
        right
        refine ⟨.exit 0 [Z z, I .i64 (at_ : Nat)], u1, ?_, (fun v hv => by cases hv), z, ?_, ?_⟩
        · unfold f16_l1
          generalize ((acc.length : Nat) : Int) = L at *
          generalize ((at_ : Nat) : Int) = A at *
          generalize R (d + 10) = r at *
          simp [hll, c0, e1, aExtract, gtt]
        · rw [← hr]
        · rw [← hr]; exact f.gr' g1
      | some pe =>
        obtain ⟨p, e⟩ := pe
        rw [ho] at e1 hr
        simp only at hr
        obtain ⟨ry, oy, he, hp⟩ := o1 p e ho
        obtain ⟨u2, e2, g2⟩ := get_run d g1.wf ry oy (by omega)
        obtain ⟨u3, hu3⟩ : ∃ u3, u3 = u2.push (.cells true (cE ent0)) := ⟨_, rfl⟩
        have b0 : u3.get u2.size = some (.cells true (cE ent0)) := by rw [hu3]; exact St.get_push_same _ _
        have g3 : Gr u2 u3 := by rw [hu3]; exact Gr.push g2.wf _
        have z3 : u3.size = u2.size + 1 := by rw [hu3]; simp
        have nw : aNew u2 (nCells [.int .i64 0, .int .i64 0, .int .i64 0, .int .i64 0, .int .i64 0, .int .i64 0, .int .u32 0, .str []]) = some (Z (.ptr u2.size 0), u3) := by rw [hu3]; rfl
        have gset : ∀ b : Blk, Gr u2 (u3.set u2.size b) := fun b =>
          ⟨St.wf_set g3.wf (by omega) _, by simpa using g3.2.1, fun c hc => by rw [St.get_set_ne _ _ (by omega)]; exact g3.2.2 c hc⟩
        cases hg : getE p with
        | none =>
          rw [hg] at e2 hr
          have st := store8 (e := ent0) b0 rfl
          right
          refine ⟨.exit 0 [Z z, I .i64 (at_ : Nat)], u3.set u2.size (.cells true (cE ent0)), ?_, (fun v hv => by cases hv), z, ?_, ?_⟩
          rotate_left
          · rw [← hr]
          · rw [← hr]; exact f.gr' ((g1.trans g2).trans (gset _))
          · unfold f16_l1
            generalize ((acc.length : Nat) : Int) = L at *
            generalize ((at_ : Nat) : Int) = A at *
            generalize ((e : Nat) : Int) = E at *
            generalize R (d + 10) = r at *
            simp [hll, c0, e1, aExtract, e2, nw, st, gtt]
        | some en =>
          rw [hg] at e2 hr
          obtain ⟨w, hw⟩ : ∃ w, w = u3.set u2.size (.cells true (cE en)) := ⟨_, rfl⟩
          have st : aStore 8 (Z (.ptr u2.size 0)) (AE en) u3 = some (tt, w) := by rw [hw]; exact store8 b0 rfl
          have ld : aLoadN 8 (Z (.ptr u2.size 0)) w.get = some (AE en) := by rw [hw]; exact load8 (St.get_set_same _ _ _)
          have gw : Gr u2 w := by rw [hw]; exact gset _
          obtain ⟨z2, u5, u4, nw2, ap, f5, _⟩ := FE.lit (e := en) (f.gr' ((g1.trans g2).trans gw)) (by omega)
          left
          refine ⟨[Z x, Z z2, I .i64 (e : Nat)], u5, q', ?_, rfl, e, z2, acc ++ [en], by simp; omega, rfl, f5, v1 _ _ _ hv ho, he, hr⟩
          unfold f16_l1
          generalize ((acc.length : Nat) : Int) = L at *
          generalize ((at_ : Nat) : Int) = A at *
          generalize R (d + 10) = r at *
          simp [hll, c0, e1, aExtract, e2, nw, st, ld, nw2, ap]
    · have hq0 : q = 0 := by omega
      subst hq0
      have c0 : ¬ ((acc.length : Nat) : Int) < 2000 := by omega
      right
      refine ⟨.exit 0 [Z z, I .i64 (at_ : Nat)], u, ?_, (fun v hv => by cases hv), z, ?_, ?_⟩
      · unfold f16_l1
        generalize ((acc.length : Nat) : Int) = L at *
        simp [hll, c0]
      · rw [← hr]; rfl
      · rw [← hr]; exact f) 8192 2000 [Z x, Z .nils, I .i64 0] s ⟨0, .nils, [], rfl, rfl, by exact Fr.nil 8 wf, v0, by omega, rfl⟩ (by omega)
  subst hj
  exact ⟨z, τ, by simp [lp, retT, allV], f⟩

/-- Few bytes: no condition. -/
theorem read_run' (d : Nat) (wf : s.wf) (h : RB s x bs) (hox : ∀ c, own x = some c → c < s.size) (hl : bs.length ≤ 7900) : ∃ y t, R (d + 11) 16 [Z x] s = some (resR y (readP bs), t) ∧ FE s t y (readP bs).1 :=
  read_run d wf h hox (by omega) (fun _ => True) trivial (fun _ _ _ _ _ => trivial) (fun a n to _ hv => by
    by_cases c : bs.length - to - 4 < n
    · exact .inl c
    · exact .inr (by omega))
end
end Go.Proofs.YtlhbidbdmdcdeaaGreatDoor

/-
  The plain law of frames: what is put is read, what is broken is not. No conditions but those named in each line.
-/
namespace Go.Proofs.YtlhbidbdmdcdeaaGreatDoor
open Go Go.Abs Go.Abs.F
set_option linter.unusedVariables false

theorem or_add (acc c k : Nat) (h : acc < 2 ^ k) : acc ||| c * 2 ^ k = acc + c * 2 ^ k := by
  have := Nat.two_pow_add_eq_or_of_lt h c
  rw [Nat.mul_comm] at this
  rw [Nat.or_comm, ← this, Nat.add_comm]

theorem pow7 (k : Nat) : 2 ^ (7 * (k + 1)) = 128 * 2 ^ (7 * k) := by
  rw [Nat.mul_add, Nat.pow_add]; omega

theorem getN_putN {bs post : Bs} {at_ : Nat} : ∀ (f k m acc : Nat), f + k = 10 → m * 2 ^ (7 * k) < 2 ^ 64 → (k = 0 ∨ 0 < m) → acc < 2 ^ (7 * k) → bs.drop (at_ + k) = putN f m ++ post →
    getN bs at_ f k acc = some (acc + m * 2 ^ (7 * k), at_ + k + (putN f m).length) := by
  intro f
  induction f with
  | zero =>
    intro k m acc hf hm h0 ha hd
    obtain rfl : k = 10 := by omega
    exfalso
    rcases h0 with h | h
    · omega
    · have : 1 * 2 ^ 70 ≤ m * 2 ^ 70 := Nat.mul_le_mul_right _ h
      have e : 2 ^ (7 * 10) = 2 ^ 70 := rfl
      rw [e] at hm
      omega
  | succ f ih =>
    intro k m acc hf hm h0 ha hd
    have hk9 : k = 9 → m < 2 := by
      rintro rfl
      have e : 2 ^ (7 * 9) = 2 ^ 63 := rfl
      rw [e] at hm
      omega
    have hget : bs[at_ + k]? = (bs.drop (at_ + k))[0]? := by simp
    unfold getN
    by_cases hc : 128 ≤ m
    · have hp : putN (f + 1) m = UInt8.ofNat (m % 128 + 128) :: putN f (m / 128) := by rw [putN, if_pos hc]
      rw [hp] at hd ⊢
      rw [hget, hd]
      have hb : (UInt8.ofNat (m % 128 + 128)).toNat = m % 128 + 128 := by rw [byte_nat]; omega
      simp only [List.cons_append, List.getElem?_cons_zero, hb]
      rw [if_neg (by rintro ⟨h, _⟩; have := hk9 h; omega), if_pos (by omega)]
      have h128 : (m % 128 + 128) % 128 = m % 128 := by omega
      rw [h128, or_add _ _ _ ha]
      have hmul : m * 2 ^ (7 * k) = m % 128 * 2 ^ (7 * k) + m / 128 * 2 ^ (7 * (k + 1)) := by
        rw [pow7, ← Nat.mul_assoc, ← Nat.add_mul]
        congr 1
        omega
      rw [ih (k + 1) (m / 128) _ (by omega) (by omega) (.inr (by omega)) ?_ ?_]
      · rw [List.length_cons, hmul]
        congr 2 <;> omega
      · rw [pow7]
        have : m % 128 * 2 ^ (7 * k) ≤ 127 * 2 ^ (7 * k) := Nat.mul_le_mul_right _ (by omega)
        omega
      · rw [← Nat.add_assoc, ← List.drop_drop, hd]; rfl
    · have hp : putN (f + 1) m = [UInt8.ofNat m] := by rw [putN, if_neg hc]
      rw [hp] at hd ⊢
      rw [hget, hd]
      have hb : (UInt8.ofNat m).toNat = m := by rw [byte_nat]; omega
      simp only [List.cons_append, List.getElem?_cons_zero, hb]
      rw [if_neg (by rintro ⟨h, _⟩; have := hk9 h; omega), if_neg hc, if_neg (by omega), Nat.mod_eq_of_lt (by omega), or_add _ _ _ ha]
      rfl

theorem vget_vput {bs pre post : Bs} {n at_ : Nat} (hb : bs = pre ++ (vput n ++ post)) (ha : at_ = pre.length) (hn : n < 2 ^ 64) : vget bs at_ = some (n, at_ + (vput n).length) := by
  subst hb ha
  unfold vget
  rw [if_pos (by simp), getN_putN (post := post) 10 0 n 0 rfl (by simpa using hn) (.inl rfl) (by simp) (by simp [vput])]
  simp [vput]

theorem nxt_put {bs pre post : Bs} {n at_ most : Nat} {bad : Bool} (hb : bs = pre ++ (vput n ++ post)) (ha : at_ = pre.length) (hn : n ≤ most) (hm : most < 2 ^ 64) : nxt bs most at_ bad = (n, at_ + (vput n).length, bad) := by
  unfold nxt
  rw [vget_vput hb ha (by omega)]
  simp only [Nat.min_eq_left hn, Prod.mk.injEq, true_and]
  rw [decide_eq_false (by omega), Bool.or_false]

/-- What is put is got. -/
theorem getE_putB {e : Ent} (h : mayE e = true) (hw : EWf e) : getE (putB e) = some e := by
  obtain ⟨v0, v1, k0, k1, h1, h2, h3, h4⟩ := mayE_range h
  have hput : putE e = some (putB e) := by unfold putE; rw [if_pos h]
  obtain ⟨w0, w1⟩ := hw
  have main : ∃ c r, putB e = c :: r ∧ getFields (putB e) c = some (e, false) := by
    refine ⟨_, _, rfl, ?_⟩
    have hkb : (UInt8.ofNat e.k.toNat).toNat = e.k.toNat := by rw [byte_nat]; omega
    have hc1 : putB e = [UInt8.ofNat e.k.toNat] ++ (vput e.v.toNat ++ (putNs (nums e) ++ e.x)) := by simp [putB]
    have n1 := nxt_put (most := 1073741824) (bad := false) hc1 rfl (by omega) (by omega)
    have hv : ((e.v.toNat : Nat) : Int) = e.v := Int.toNat_of_nonneg v0
    rcases (by omega : e.k = 1 ∨ e.k = 2 ∨ e.k = 3 ∨ e.k = 4) with hk | hk | hk | hk
    · obtain ⟨hx, i0, i1, t0, t1, f0, f1, o1⟩ := h1 hk
      have hk' : (UInt8.ofNat e.k.toNat).toNat = 1 := by rw [hkb, hk]; rfl
      have hn : nums e = [e.i.toNat, e.t.toNat, e.f.toNat, e.o.toNat, e.u.toNat] := by simp [nums, hk]
      have c2 : putB e = ([UInt8.ofNat e.k.toNat] ++ vput e.v.toNat) ++ (vput e.i.toNat ++ (vput e.t.toNat ++ vput e.f.toNat ++ vput e.o.toNat ++ vput e.u.toNat)) := by simp [putB, hn, putNs, hx]
      have c3 : putB e = ([UInt8.ofNat e.k.toNat] ++ vput e.v.toNat ++ vput e.i.toNat) ++ (vput e.t.toNat ++ (vput e.f.toNat ++ vput e.o.toNat ++ vput e.u.toNat)) := by simp [putB, hn, putNs, hx]
      have c4 : putB e = ([UInt8.ofNat e.k.toNat] ++ vput e.v.toNat ++ vput e.i.toNat ++ vput e.t.toNat) ++ (vput e.f.toNat ++ (vput e.o.toNat ++ vput e.u.toNat)) := by simp [putB, hn, putNs, hx]
      have c5 : putB e = ([UInt8.ofNat e.k.toNat] ++ vput e.v.toNat ++ vput e.i.toNat ++ vput e.t.toNat ++ vput e.f.toNat) ++ (vput e.o.toNat ++ vput e.u.toNat) := by simp [putB, hn, putNs, hx]
      have c6 : putB e = ([UInt8.ofNat e.k.toNat] ++ vput e.v.toNat ++ vput e.i.toNat ++ vput e.t.toNat ++ vput e.f.toNat ++ vput e.o.toNat) ++ (vput e.u.toNat ++ []) := by simp [putB, hn, putNs, hx]
      have n2 := nxt_put (most := 1073741824) (bad := false) c2 rfl (by omega) (by omega)
      have n3 := nxt_put (most := 4) (bad := false) c3 rfl (by omega) (by omega)
      have n4 := nxt_put (most := 1099511627776) (bad := false) c4 rfl (by omega) (by omega)
      have n5 := nxt_put (most := 1099511627776) (bad := false) c5 rfl (by omega) (by omega)
      have n6 := nxt_put (most := 4294967295) (bad := false) c6 rfl (by omega) (by omega)
      simp only [List.length_append, List.length_cons, List.length_nil, Nat.zero_add] at n1 n2 n3 n4 n5 n6
      unfold getFields
      simp only [hk', n1, n2, n3, n4, n5, n6, if_true]
      simp only [hv, Int.toNat_of_nonneg (show 0 ≤ e.i by omega), Int.toNat_of_nonneg t0, Int.toNat_of_nonneg f0, Int.toNat_of_nonneg (show 0 ≤ e.o by omega), Int.toNat_of_nonneg w0]
      obtain ⟨a1, a2, a3, a4, a5, a6, a7, a8⟩ := e
      simp only at hk hx
      subst hk hx
      rfl
    · have hk' : (UInt8.ofNat e.k.toNat).toNat = 2 := by rw [hkb, hk]; rfl
      obtain ⟨q0, q1, q2⟩ := h2 hk
      have hn : nums e = [e.i.toNat] := by simp [nums, hk]
      have c2 : putB e = ([UInt8.ofNat e.k.toNat] ++ vput e.v.toNat) ++ (vput e.i.toNat ++ e.x) := by simp [putB, hn, putNs]
      have n2 := nxt_put (most := 1073741824) (bad := false) c2 rfl (by omega) (by omega)
      simp only [List.length_append, List.length_cons, List.length_nil, Nat.zero_add] at n1 n2
      unfold getFields
      simp only [hk', n1, n2, if_true, if_neg (show ¬ (2 : Nat) = 1 by decide)]
      rw [hv, Int.toNat_of_nonneg (show 0 ≤ e.i by omega)]
      obtain ⟨a1, a2, a3, a4, a5, a6, a7, a8⟩ := e
      simp only at hk
      subst hk
      obtain rfl : a4 = 0 := congrArg Ent.t q2
      obtain rfl : a5 = 0 := congrArg Ent.f q2
      obtain rfl : a6 = 0 := congrArg Ent.o q2
      obtain rfl : a7 = 0 := congrArg Ent.u q2
      obtain rfl : a8 = [] := congrArg Ent.x q2
      rfl
    · have hk' : (UInt8.ofNat e.k.toNat).toNat = 3 := by rw [hkb, hk]; rfl
      simp only [List.length_append, List.length_cons, List.length_nil, Nat.zero_add] at n1
      unfold getFields
      simp only [hk', n1, if_neg (show ¬ (3 : Nat) = 1 by decide), if_neg (show ¬ (3 : Nat) = 2 by decide), if_neg (show ¬ (3 : Nat) = 4 by decide)]
      rw [hv]
      have q2 := (h3 hk).2
      obtain ⟨a1, a2, a3, a4, a5, a6, a7, a8⟩ := e
      simp only at hk
      subst hk
      simp only [ent0, Ent.mk.injEq] at q2
      obtain ⟨_, _, q3, q4, q5, q6, q7, q8⟩ := q2
      subst_vars
      rfl
    · have hk' : (UInt8.ofNat e.k.toNat).toNat = 4 := by rw [hkb, hk]; rfl
      obtain ⟨x0, q2, _⟩ := h4 hk
      have hn : nums e = [e.x.length] := by simp [nums, hk]
      have c2 : putB e = ([UInt8.ofNat e.k.toNat] ++ vput e.v.toNat) ++ (vput e.x.length ++ e.x) := by simp [putB, hn, putNs]
      have n2 := nxt_put (most := 300) (bad := false) c2 rfl (by omega) (by omega)
      have hl : (putB e).length = 1 + (vput e.v.toNat).length + (vput e.x.length).length + e.x.length := by rw [c2]; simp; omega
      have hd : (putB e).drop (1 + (vput e.v.toNat).length + (vput e.x.length).length) = e.x := by
        rw [c2, ← List.append_assoc, List.drop_left']
        simp
        omega
      simp only [List.length_append, List.length_cons, List.length_nil, Nat.zero_add] at n1 n2
      unfold getFields
      simp only [hk', n1, n2, if_neg (show ¬ (4 : Nat) = 1 by decide), if_neg (show ¬ (4 : Nat) = 2 by decide), if_true]
      rw [if_neg (by rw [hl]; simp), hd, List.take_length, hv]
      obtain ⟨a1, a2, a3, a4, a5, a6, a7, a8⟩ := e
      simp only at hk
      subst hk
      simp only [ent0, Ent.mk.injEq] at q2
      obtain ⟨_, _, q3, q4, q5, q6, q7, q8⟩ := q2
      subst_vars
      rfl
  obtain ⟨c, r, hb, hf⟩ := main
  unfold getE
  rw [hb]
  simp only
  rw [← hb, hf]
  simp [hput]

theorem getE_back {bs : Bs} {e : Ent} (h : getE bs = some e) : mayE e = true ∧ bs = putB e := by
  unfold getE at h
  split at h
  · cases h
  · split at h
    · cases h
    · rename_i e' bad he
      split at h
      · rename_i hc
        cases h
        have hp := hc.2
        unfold putE at hp
        split at hp
        · rename_i hm
          cases hp
          exact ⟨hm, rfl⟩
        · cases hp
      · cases h

/-! ### A frame -/

theorem openB_wrap {bs pre b post : Bs} {at_ : Nat} (hb : bs = pre ++ (wrapB b ++ post)) (ha : at_ = pre.length) (hn : b.length < 2 ^ 64) : openB bs at_ = some (b, at_ + (wrapB b).length) := by
  have hs : bs = pre ++ (vput b.length ++ (four (sumB 1 (vput b.length ++ b)) ++ b ++ post)) := by rw [hb]; simp [wrapB]
  have h4 : ∀ n, (four n).length = 4 := fun _ => rfl
  have hl : bs.length = at_ + (vput b.length).length + 4 + b.length + post.length := by rw [hs, ha]; simp [h4]; omega
  have hw : (wrapB b).length = (vput b.length).length + 4 + b.length := by simp [wrapB, h4]; omega
  have hd : bs.drop at_ = wrapB b ++ post := by rw [hb, ha, List.drop_left]
  have hd2 : bs.drop (at_ + (vput b.length).length + 4) = b ++ post := by
    rw [hs, ha, show pre ++ (vput b.length ++ (four (sumB 1 (vput b.length ++ b)) ++ b ++ post)) = (pre ++ vput b.length ++ four (sumB 1 (vput b.length ++ b))) ++ (b ++ post) by simp]
    rw [List.drop_left']
    simp [h4]
    omega
  unfold openB
  rw [vget_vput hs ha hn]
  simp only
  rw [if_neg (by omega), hd, hd2, List.take_left, List.take_left' (by rw [hw]; omega), if_pos rfl]
  congr 2
  omega

theorem openB_back {bs p : Bs} {at_ e : Nat} (h : openB bs at_ = some (p, e)) : e = at_ + (wrapB p).length ∧ e ≤ bs.length ∧ ∃ post, bs.drop at_ = wrapB p ++ post := by
  have he := openB_le h
  unfold openB at h
  split at h
  · cases h
  · rename_i n to hv
    have hlt := vget_lt hv
    split at h
    · cases h
    · split at h
      · rename_i hc heq
        cases h
        have h1 := List.take_append_drop (to + 4 + n - at_) (bs.drop at_)
        have hl : ((bs.drop at_).take (to + 4 + n - at_)).length = to + 4 + n - at_ := by rw [List.length_take, List.length_drop]; omega
        rw [heq] at hl h1
        exact ⟨by omega, he, _, h1.symm⟩
      · cases h

/-- No frame begins another. -/
theorem wrapB_free {p q r r' : Bs} (h : wrapB p ++ r = wrapB q ++ r') (hp : p.length < 2 ^ 64) (hq : q.length < 2 ^ 64) : p = q ∧ r = r' := by
  have h1 := openB_wrap (bs := wrapB p ++ r) (pre := []) (b := p) (post := r) (at_ := 0) rfl rfl hp
  have h2 := openB_wrap (bs := wrapB p ++ r) (pre := []) (b := q) (post := r') (at_ := 0) (by rw [h]; rfl) rfl hq
  rw [h1] at h2
  have : p = q := by cases h2; rfl
  subst this
  exact ⟨rfl, List.append_cancel_left h⟩

theorem openB_end {bs : Bs} {at_ : Nat} (h : bs.length ≤ at_) : openB bs at_ = none := by
  unfold openB vget
  split
  · rfl
  · rename_i n to hv
    split at hv
    · unfold getN at hv
      rw [show bs[at_ + 0]? = none from List.getElem?_eq_none (by omega)] at hv
      cases hv
    · cases hv

theorem framesB_append : ∀ l m : List Ent, framesB (l ++ m) = framesB l ++ framesB m
  | [], m => rfl
  | e :: r, m => by simp [framesB, framesB_append r m]

theorem mayE_len {e : Ent} (h : mayE e = true) : (putB e).length ≤ 400 := putB_len (mayE_x h)

/-- Whole frames are read. -/
theorem readL_frames {bs post : Bs} : ∀ (l : List Ent) (f : Nat) (pre : Bs) (acc : List Ent), l.length ≤ f → l.all mayE = true → (∀ e ∈ l, EWf e) → bs = pre ++ (framesB l ++ post) →
    readL bs f pre.length acc = readL bs (f - l.length) (pre.length + (framesB l).length) (acc ++ l)
  | [], f, pre, acc, _, _, _, _ => by simp [framesB]
  | e :: r, f + 1, pre, acc, hf, hm, hw, hb => by
    simp only [List.all_cons, Bool.and_eq_true] at hm
    have hl := mayE_len hm.1
    have ho := openB_wrap (bs := bs) (pre := pre) (at_ := pre.length) (b := putB e) (post := framesB r ++ post) (by rw [hb]; simp [framesB]) rfl (by omega)
    rw [readL, ho]
    simp only [getE_putB hm.1 (hw e (by simp))]
    have ih := readL_frames (bs := bs) (post := post) r f (pre ++ wrapB (putB e)) (acc ++ [e]) (by simpa using hf) hm.2 (fun x hx => hw x (by simp [hx])) (by rw [hb]; simp [framesB])
    rw [List.length_append] at ih
    rw [ih]
    simp [framesB]
    congr 1
    omega

/-- Where no frame stands the reading ends. -/
theorem readL_none {bs : Bs} {f at_ : Nat} {acc : List Ent} (h : openB bs at_ = none) : readL bs f at_ acc = (acc, at_) := by
  cases f with
  | zero => rfl
  | succ f => rw [readL, h]

theorem readP_frames {bs post : Bs} {l : List Ent} (hl : l.length ≤ 2000) (hm : l.all mayE = true) (hw : ∀ e ∈ l, EWf e) (hb : bs = framesB l ++ post) :
    readP bs = readL bs (2000 - l.length) (framesB l).length l := by
  have := readL_frames (bs := bs) (post := post) l 2000 [] [] hl hm hw hb
  simpa [readP] using this
end Go.Proofs.YtlhbidbdmdcdeaaGreatDoor
