/-
  LogMeets: two rows meet as far as they are one. No conditions but those named in each line.
-/
import Derived.Test.YtlhbidbdmdcdeaaGreatDoorTorn
namespace Go.Proofs.YtlhbidbdmdcdeaaGreatDoor
open Go Go.Abs Go.Abs.F
set_option linter.unusedVariables false

theorem meetP_comm : ∀ a b : List Ent, meetP a b = meetP b a
  | [], [] => rfl
  | [], b :: t => rfl
  | a :: r, [] => rfl
  | a :: r, b :: t => by
    show (if a = b then _ else 0) = (if b = a then _ else 0)
    by_cases h : a = b
    · rw [if_pos h, if_pos h.symm, meetP_comm r t]
    · rw [if_neg h, if_neg fun e => h e.symm]

theorem meetP_stop : ∀ (a b : List Ent) (x y : Ent), a[meetP a b]? = some x → b[meetP a b]? = some y → x ≠ y
  | [], b, x, y, h, _ => by simp [meetP] at h
  | a :: r, [], x, y, _, h => by simp [meetP] at h
  | a :: r, b :: t, x, y, h, k => by
    by_cases e : a = b
    · have : meetP (a :: r) (b :: t) = meetP r t + 1 := by show (if a = b then _ else 0) = _; rw [if_pos e]
      rw [this] at h k
      exact meetP_stop r t x y (by simpa using h) (by simpa using k)
    · have : meetP (a :: r) (b :: t) = 0 := by show (if a = b then _ else 0) = _; rw [if_neg e]
      rw [this] at h k
      simp at h k
      rw [← h, ← k]
      exact e

theorem meetP_upto : ∀ a b : List Ent, meetP (a.take (meetP a b)) b = meetP a b
  | [], b => by simp [meetP]
  | a :: r, [] => by simp [meetP]
  | a :: r, b :: t => by
    by_cases e : a = b
    · have h : meetP (a :: r) (b :: t) = meetP r t + 1 := by show (if a = b then _ else 0) = _; rw [if_pos e]
      rw [h, List.take_succ_cons]
      show (if a = b then _ else 0) = _
      rw [if_pos e, meetP_upto r t]
    · have h : meetP (a :: r) (b :: t) = 0 := by show (if a = b then _ else 0) = _; rw [if_neg e]
      rw [h]
      simp [meetP]

section
variable {s t : St} {x y : S} {l m : List Ent}

theorem meets_run (d : Nat) (wf : s.wf) {is js : List Int} {cut : Int} (hx : Rd 1 s x is.length (I64 is)) (hox : ∀ c, own x = some c → c < s.size) (hy : Rd 1 s y js.length (I64 js)) (hoy : ∀ c, own y = some c → c < s.size) :
    ∃ t, R (d + 12) 7 [Z x, Z y, I .i64 cut] s = some (B true, t) := by
  rw [f7_run]
  unfold f7
  obtain ⟨_, _, hl⟩ := rowsE_may is
  obtain ⟨_, _, hm⟩ := rowsE_may js
  obtain ⟨a, s1, e1, f1⟩ := rows_run (d + 10) wf hx hox
  obtain ⟨b, s2, e2, f2⟩ := rows_run (d + 10) f1.gr.wf (hy.gr hoy f1.gr) (fun c hc => Nat.lt_of_lt_of_le (hoy c hc) f1.gr.2.1)
  generalize rowsE is = l at *
  generalize rowsE js = m at *
  have oa : ∀ c, own a = some c → c < s2.size := fun c hc => Nat.lt_of_lt_of_le (f1.new c hc).2 f2.gr.2.1
  have ob : ∀ c, own b = some c → c < s2.size := fun c hc => (f2.new c hc).2
  have ra : RE s2 a l := Rd.gr f1.rd (fun c hc => (f1.new c hc).2) f2.gr
  have rb : RE s2 b m := f2.rd
  have la := ra.lens
  have lb := rb.lens
  have up : ∀ {x : S} {u : St}, Gr s2 u → (∀ c, own x = some c → c < s2.size) → ∀ c, own x = some c → c < u.size := fun g h c hc => Nat.lt_of_lt_of_le (h c hc) g.2.1
  obtain ⟨s3, e3, g3⟩ := meet_run (d + 9) f2.gr.wf ra oa rb ob (by omega)
  obtain ⟨le1, le2⟩ := meetP_le l m
  obtain ⟨p, p1, rp, op⟩ := RE_upto (ra.gr oa g3) (k := meetP l m) le1
  obtain ⟨s4, e4, g4⟩ := front_run (d + 8) g3.wf rp (own_lt op (up g3 oa)) (rb.gr ob g3) (up g3 ob) (by rw [List.length_take]; omega)
  have h4 : (l.take (meetP l m)).length = meetP l m := by rw [List.length_take]; omega
  rw [meetP_upto, h4, decide_eq_true rfl] at e4
  have g24 := g3.trans g4
  obtain ⟨s5, e5, g5⟩ := meet_run (d + 9) g4.wf (rb.gr ob g24) (up g24 ob) (ra.gr oa g24) (up g24 oa) (by omega)
  rw [meetP_comm m l] at e5
  have g25 := g24.trans g5
  obtain ⟨k, hk, _, c1, c2, r1, c3⟩ := mod_run cut (n := l.length + 1) (by omega) (by omega)
  have w1 : IntKind.i64.wrap ((l.length : Int) + 1) = ((l.length + 1 : Nat) : Int) := by rw [wrap_in _ (by omega) (by omega)]; omega
  have tl5 := fun st => told10_run (d + 10) st
  obtain ⟨q, p2, rq, oq⟩ := RE_upto (ra.gr oa g25) (k := k) (by omega)
  have hq : (l.take k).length = k := by rw [List.length_take]; omega
  obtain ⟨s6, e6, g6⟩ := front_run (d + 8) g5.wf rq (own_lt oq (up g25 oa)) (ra.gr oa g25) (up g25 oa) (by rw [List.length_take]; omega)
  rw [meetP_take, decide_eq_true rfl] at e6
  have g26 := g25.trans g6
  have oq5 := own_lt oq (up g25 oa)
  obtain ⟨s7, e7, g7⟩ := meet_run (d + 9) g6.wf (rq.gr oq5 g6) (fun c hc => Nat.lt_of_lt_of_le (oq5 c hc) g6.2.1) (ra.gr oa g26) (up g26 oa) (by rw [List.length_take]; omega)
  rw [meetP_take, hq] at e7
  have g27 := g26.trans g7
  obtain ⟨s8, e8, g8⟩ := front_run (d + 8) g7.wf (ra.gr oa g27) (up g27 oa) (rb.gr ob g27) (up g27 ob) (by omega)
  have d8 : decide (((meetP l m : Nat) : Int) = ((l.length : Nat) : Int)) = decide (meetP l m = l.length) := decide_eq_decide.2 (by omega)
  have hstop := meetP_stop l m
  have n1 : ¬ ((l.length : Nat) : Int) < ((meetP l m : Nat) : Int) := by omega
  have n2 : ¬ ((m.length : Nat) : Int) < ((meetP l m : Nat) : Int) := by omega
  have atl : meetP l m < l.length → meetP l m < m.length → ∃ p p' v v', aIndexSl 8 (Z a) (I .i64 (meetP l m : Nat)) = some p ∧ aLoadN 8 p s4.get = some (AE v) ∧ aIndexSl 8 (Z b) (I .i64 (meetP l m : Nat)) = some p' ∧ aLoadN 8 p' s4.get = some (AE v') ∧ decide (v = v') = false := fun h h' => by
    obtain ⟨p, i1, j1⟩ := RE.atE (ra.gr oa g24) (n := ((meetP l m : Nat) : Int)) rfl (List.getElem?_eq_getElem h)
    obtain ⟨p', i2, j2⟩ := RE.atE (rb.gr ob g24) (n := ((meetP l m : Nat) : Int)) rfl (List.getElem?_eq_getElem h')
    exact ⟨p, p', _, _, i1, j1, i2, j2, decide_eq_false (hstop _ _ (List.getElem?_eq_getElem h) (List.getElem?_eq_getElem h'))⟩
  have hlt1 : decide (((meetP l m : Nat) : Int) < ((l.length : Nat) : Int)) = decide (meetP l m < l.length) := decide_eq_decide.2 (by omega)
  have hlt2 : decide (((meetP l m : Nat) : Int) < ((m.length : Nat) : Int)) = decide (meetP l m < m.length) := decide_eq_decide.2 (by omega)
  simp only [Nat.add_assoc, Nat.reduceAdd] at e1 e2 e3 e4 e5 e6 e7 e8 tl5
  refine ⟨s8, ?_⟩
  rw [← d8] at e8
  have eqn := eqBE
  generalize ((l.length + 1 : Nat) : Int) = L1 at *
  generalize R (d + 11) = r at *
  by_cases k1 : meetP l m < l.length
  · rw [decide_eq_true k1] at hlt1
    by_cases k2 : meetP l m < m.length
    · rw [decide_eq_true k2] at hlt2
      obtain ⟨i, i', v, v', i1, j1, i2, j2, ne⟩ := atl k1 k2
      generalize ((meetP l m : Nat) : Int) = M at *
      generalize ((l.length : Nat) : Int) = L at *
      generalize ((m.length : Nat) : Int) = LM at *
      generalize ((k : Nat) : Int) = KK at *
      generalize ((rowK cut : Nat) : Int) = RK at *
      simp [e1, e2, e3, la, lb, n1, n2, p1, e4, hlt1, hlt2, i1, j1, i2, j2, eqn, ne, e5, c1, w1, c2, r1, c3, tl5, p2, e6, e7, e8]
    · rw [decide_eq_false k2] at hlt2
      clear atl
      generalize ((meetP l m : Nat) : Int) = M at *
      generalize ((l.length : Nat) : Int) = L at *
      generalize ((m.length : Nat) : Int) = LM at *
      generalize ((k : Nat) : Int) = KK at *
      generalize ((rowK cut : Nat) : Int) = RK at *
      simp [e1, e2, e3, la, lb, n1, n2, p1, e4, hlt1, hlt2, e5, c1, w1, c2, r1, c3, tl5, p2, e6, e7, e8]
  · rw [decide_eq_false k1] at hlt1
    clear atl
    generalize ((meetP l m : Nat) : Int) = M at *
    generalize ((l.length : Nat) : Int) = L at *
    generalize ((m.length : Nat) : Int) = LM at *
    generalize ((k : Nat) : Int) = KK at *
    generalize ((rowK cut : Nat) : Int) = RK at *
    simp [e1, e2, e3, la, lb, n1, n2, p1, e4, hlt1, e5, c1, w1, c2, r1, c3, tl5, p2, e6, e7, e8]
end
end Go.Proofs.YtlhbidbdmdcdeaaGreatDoor
