/-
  Policies: what policy.Default, May, line and Parse compute, in any store. No conditions but those named in each line.
-/
import Derived.Test.YtlhbidbdmdcdeaaGreatDoorNum
namespace Go.Proofs.YtlhbidbdmdcdeaaGreatDoor
open Go Go.Abs Go.Abs.F
set_option linter.unusedVariables false

structure Pol where
  a0 : Int
  a1 : Int
  a2 : Int
  a3 : Int
  c : Int
  n : Int
  deriving DecidableEq

def cP (p : Pol) : List S := [.int .i64 p.a0, .int .i64 p.a1, .int .i64 p.a2, .int .i64 p.a3, .int .i64 p.c, .int .i64 p.n]
abbrev AP (p : Pol) : T := .v (.agg (cP p))
def pol0 : Pol := ⟨0, 0, 0, 0, 0, 0⟩
def polD : Pol := ⟨60, 600, 6000, 0, 8, 30⟩

def ageOk (n : Int) : Bool := decide (0 ≤ n) && decide (n ≤ 1099511627776)
def nxtOk (was n : Int) : Bool := decide (n = 0) || (decide (was ≤ n) && !decide (was = 0))
def agesOk (p : Pol) : Bool := ageOk p.a0 && (ageOk p.a1 && nxtOk p.a0 p.a1) && (ageOk p.a2 && nxtOk p.a1 p.a2) && (ageOk p.a3 && nxtOk p.a2 p.a3)
def mayP (p : Pol) : Bool := agesOk p && decide (p.a3 = 0) && decide (1 ≤ p.c) && decide (p.c ≤ 64) && decide (1 ≤ p.n) && decide (p.n ≤ 200)

section
variable {s t : St} {x y : S} {l : Bs} {i : Nat}

theorem store6 {i : Nat} {vs : List S} {p : Pol} (h : s.get i = some (.cells true vs)) (hv : vs.length = 6) : aStore 6 (Z (.ptr i 0)) (AP p) s = some (tt, s.set i (.cells true (cP p))) := by
  have hb : (V.agg (cP p)).cells.length = 6 ∧ 0 + 6 ≤ vs.length := ⟨rfl, by omega⟩
  simp only [aStore, h, if_pos hb]
  rw [show (V.agg (cP p)).cells = cP p from rfl, setRange_all (by rw [hv]; rfl)]
theorem load6 {i : Nat} {w : Bool} {p : Pol} {g : Mem} (h : g i = some (.cells w (cP p))) : aLoadN 6 (Z (.ptr i 0)) g = some (AP p) := by
  simp [aLoadN, h, cP]
theorem aNew_cells (s : St) (l : List S) : aNew s (nCells l) = some (Z (.ptr s.size 0), s.push (.cells true l)) := rfl
theorem agg6 : asAggT (aFill [.int .i64 0, .int .i64 0, .int .i64 0, .int .i64 0, .int .i64 0, .int .i64 0] []) = some (AP pol0) := rfl

theorem gtt (b : Bool) : gd tt b = some false := rfl

theorem default_run (d : Nat) (wf : s.wf) : ∃ t, R (d + 1) 49 [] s = some (AP polD, t) ∧ Gr s t := by
  rw [f49_run]
  unfold f49
  have e1 : asAggT (aFill [.int .i64 0, .int .i64 0, .int .i64 0, .int .i64 0] [(0, 1, (I .i64 60)), (1, 1, (I .i64 600)), (2, 1, (I .i64 6000)), (3, 1, (I .i64 0))]) = some (.v (.agg [.int .i64 60, .int .i64 600, .int .i64 6000, .int .i64 0])) := rfl
  have e2 : asAggT (aFill [.int .i64 0, .int .i64 0, .int .i64 0, .int .i64 0, .int .i64 0, .int .i64 0] [(0, 4, .v (.agg [.int .i64 60, .int .i64 600, .int .i64 6000, .int .i64 0])), (4, 1, (I .i64 8)), (5, 1, (I .i64 30))]) = some (AP polD) := rfl
  obtain ⟨s1, hs1⟩ : ∃ s1, s1 = s.push (.cells true (cP pol0)) := ⟨_, rfl⟩
  have nw : aNew s (nCells [.int .i64 0, .int .i64 0, .int .i64 0, .int .i64 0, .int .i64 0, .int .i64 0]) = some (Z (.ptr s.size 0), s1) := by rw [hs1]; rfl
  have h1 : s1.get s.size = some (.cells true (cP pol0)) := by rw [hs1]; exact St.get_push_same _ _
  obtain ⟨s2, hs2⟩ : ∃ s2, s2 = s1.set s.size (.cells true (cP polD)) := ⟨_, rfl⟩
  have st := store6 (p := polD) h1 rfl
  rw [← hs2] at st
  have h2 : s2.get s.size = some (.cells true (cP polD)) := by rw [hs2]; exact St.get_set_same _ _ _
  have ld := load6 (g := s2.get) h2
  refine ⟨s2, ?_, ?_⟩
  · simp [nw, e1, e2, st, ld, rC, retT]
  · rw [hs2, hs1]
    exact ⟨St.wf_set (St.wf_push wf _) (by simp) _, by simp, fun b hb => by rw [St.get_set_ne _ _ (by omega), St.get_push_ne _ _ (by omega)]⟩

def ageAt (p : Pol) : Nat → Int
  | 0 => p.a0
  | 1 => p.a1
  | 2 => p.a2
  | _ => p.a3
def okAt (p : Pol) : Nat → Bool
  | 0 => ageOk p.a0
  | 1 => ageOk p.a1 && nxtOk p.a0 p.a1
  | 2 => ageOk p.a2 && nxtOk p.a1 p.a2
  | _ => ageOk p.a3 && nxtOk p.a2 p.a3
theorem agesOk_iff (p : Pol) : agesOk p = true ↔ ∀ j, j < 4 → okAt p j = true := by
  constructor
  · intro h j hj
    simp only [agesOk, Bool.and_eq_true] at h
    match j, hj with
    | 0, _ => exact h.1.1.1
    | 1, _ => simp only [okAt, Bool.and_eq_true]; exact h.1.1.2
    | 2, _ => simp only [okAt, Bool.and_eq_true]; exact h.1.2
    | 3, _ => simp only [okAt, Bool.and_eq_true]; exact h.2
  · intro h
    have h0 := h 0 (by omega)
    have h1 := h 1 (by omega)
    have h2 := h 2 (by omega)
    have h3 := h 3 (by omega)
    simp only [okAt] at h0 h1 h2 h3
    simp only [agesOk, h0, h1, h2, h3, Bool.and_self]

theorem may_run (d : Nat) (wf : s.wf) (p : Pol) : ∃ t, R (d + 1) 82 [AP p] s = some (B (mayP p), t) ∧ Gr s t := by
  rw [f82_run]
  unfold f82
  obtain ⟨s1, hs1⟩ : ∃ s1, s1 = s.push (.cells true (cP p)) := ⟨_, rfl⟩
  have nw : aNew s (nBox (AP p)) = some (Z (.ptr s.size 0), s1) := by rw [hs1]; rfl
  have h1 : s1.get s.size = some (.cells true (cP p)) := by rw [hs1]; exact St.get_push_same _ _
  have g : Gr s s1 := by rw [hs1]; exact Gr.push wf _
  have l4 : aLoadN 4 (Z (.ptr s.size 0)) s1.get = some (.v (.agg [.int .i64 p.a0, .int .i64 p.a1, .int .i64 p.a2, .int .i64 p.a3])) := by simp [aLoadN, h1, cP]
  have ld : ∀ j, j < 4 → aLoad1 (Z (.ptr s.size j)) s1.get = some (I .i64 (ageAt p j)) := fun j hj => by
    match j, hj with
    | 0, _ => exact aLoad1_of h1 rfl
    | 1, _ => exact aLoad1_of h1 rfl
    | 2, _ => exact aLoad1_of h1 rfl
    | 3, _ => exact aLoad1_of h1 rfl
  have ld4 : aLoad1 (Z (.ptr s.size 4)) s1.get = some (I .i64 p.c) := aLoad1_of h1 rfl
  have ld5 : aLoad1 (Z (.ptr s.size 5)) s1.get = some (I .i64 p.n) := aLoad1_of h1 rfl
  have at4 : ∀ j, j < 4 → aAtArr none 4 1 (.v (.agg [.int .i64 p.a0, .int .i64 p.a1, .int .i64 p.a2, .int .i64 p.a3])) (I .i64 (j : Nat)) = some (I .i64 (ageAt p j)) := fun j hj => by
    match j, hj with
    | 0, _ => rfl
    | 1, _ => rfl
    | 2, _ => rfl
    | 3, _ => rfl
  have ix : ∀ j : Nat, j < 4 → aIndexArr 4 1 (Z (.ptr s.size 0)) (I .i64 (j : Nat)) = some (Z (.ptr s.size j)) := fun j hj => by
    match j, hj with
    | 0, _ => rfl
    | 1, _ => rfl
    | 2, _ => rfl
    | 3, _ => rfl
  obtain ⟨j, τ, lp, hj, hτ⟩ := loops_inv (f := f82_l1 (R d) 8192) (fun q v u => ∃ k : Nat, q + k = 4 ∧ v = [Z (.ptr s.size 0), .v (.agg [.int .i64 p.a0, .int .i64 p.a1, .int .i64 p.a2, .int .i64 p.a3]), I .i64 k] ∧ u = s1 ∧ ∀ j, j < k → okAt p j = true)
    (fun j u => (j = .exit 0 [Z (.ptr s.size 0)] ∧ agesOk p = true ∨ j = .ret (B false) ∧ agesOk p = false) ∧ u = s1) (by
    rintro q v u ⟨k, hk, rfl, rfl, hok⟩
    by_cases hk4 : k < 4
    · have bad : okAt p k = false → agesOk p = false := fun h => by
        rw [Bool.eq_false_iff]
        intro h2
        rw [(agesOk_iff p).1 h2 k hk4] at h
        cases h
      have next : okAt p k = true → ∀ j, j < k + 1 → okAt p j = true := fun h j hj => by
        by_cases e : j = k
        · subst e; exact h
        · exact hok j (by omega)
      have c0 : (k : Int) < 4 := by omega
      have w1 : IntKind.i64.wrap ((k : Int) + 1) = ((k + 1 : Nat) : Int) := by rw [wrap_in _ (by omega) (by omega)]; omega
      have hat := at4 k hk4
      obtain ⟨a, ha⟩ : ∃ a, a = ageAt p k := ⟨_, rfl⟩
      rw [← ha] at hat
      have hage : okAt p k = (ageOk a && (decide (k = 0) || nxtOk (ageAt p (k - 1)) a)) := by
        rw [ha]
        match k, hk4 with
        | 0, _ => simp [okAt, ageAt]
        | 1, _ => simp [okAt, ageAt]
        | 2, _ => simp [okAt, ageAt]
        | 3, _ => simp [okAt, ageAt]
      by_cases c1 : a < 0
      · right
        have : okAt p k = false := by
          have : ¬ 0 ≤ a := by omega
          rw [hage]; simp [ageOk, this]
        refine ⟨.ret (B false), u, ?_, (fun v hv => by cases hv), .inr ⟨rfl, bad this⟩, rfl⟩
        unfold f82_l1
        simp [c0, hat, c1]
      · by_cases c2 : 1099511627776 < a
        · right
          have : okAt p k = false := by
            have : ¬ a ≤ 1099511627776 := by omega
            rw [hage]; simp [ageOk, this]
          refine ⟨.ret (B false), u, ?_, (fun v hv => by cases hv), .inr ⟨rfl, bad this⟩, rfl⟩
          unfold f82_l1
          simp [c0, hat, c1, c2]
        · have hA : ageOk a = true := by
            have h1 : 0 ≤ a := by omega
            have h2 : a ≤ 1099511627776 := by omega
            simp [ageOk, h1, h2]
          by_cases k0 : k = 0
          · left
            have : okAt p k = true := by rw [hage]; simp [hA, k0]
            refine ⟨[Z (.ptr s.size 0), .v (.agg [.int .i64 p.a0, .int .i64 p.a1, .int .i64 p.a2, .int .i64 p.a3]), I .i64 ((k + 1 : Nat) : Int)], u, q - 1, ?_, by omega, k + 1, by omega, rfl, rfl, next this⟩
            unfold f82_l1
            subst k0
            have hat0 : aAtArr none 4 1 (.v (.agg [.int .i64 p.a0, .int .i64 p.a1, .int .i64 p.a2, .int .i64 p.a3])) (I .i64 0) = some (I .i64 a) := hat
            have w0 : IntKind.i64.wrap 1 = 1 := rfl
            simp [hat0, c1, c2, w0]
          · obtain ⟨b, hb⟩ : ∃ b, b = ageAt p (k - 1) := ⟨_, rfl⟩
            rw [← hb] at hage
            have ck0 : ¬ (k : Int) = 0 := by omega
            have w2 : IntKind.i64.wrap ((k : Int) - 1) = ((k - 1 : Nat) : Int) := by rw [wrap_in _ (by omega) (by omega)]; omega
            have ix1 := ix (k - 1) (by omega)
            have ld1 := ld (k - 1) (by omega)
            rw [← hb] at ld1
            by_cases c3 : a = 0
            · left
              have : okAt p k = true := by rw [hage, hA]; simp [nxtOk, c3]
              refine ⟨[Z (.ptr s.size 0), .v (.agg [.int .i64 p.a0, .int .i64 p.a1, .int .i64 p.a2, .int .i64 p.a3]), I .i64 ((k + 1 : Nat) : Int)], u, q - 1, ?_, by omega, k + 1, by omega, rfl, rfl, next this⟩
              unfold f82_l1
              subst c3
              generalize ((k + 1 : Nat) : Int) = K1 at w1 ⊢
              generalize ((k - 1 : Nat) : Int) = K0 at w2 ix1
              generalize (k : Int) = K at *
              simp [c0, hat, ck0, w2, ix1, ld1, w1, gtt]
            · by_cases c4 : a < b
              · right
                have : okAt p k = false := by
                  have h1 : ¬ b ≤ a := by omega
                  rw [hage]; simp [hA, nxtOk, c3, h1, k0]
                refine ⟨.ret (B false), u, ?_, (fun v hv => by cases hv), .inr ⟨rfl, bad this⟩, rfl⟩
                unfold f82_l1
                generalize ((k - 1 : Nat) : Int) = K0 at w2 ix1
                generalize (k : Int) = K at *
                simp [c0, hat, c1, c2, ck0, w2, ix1, ld1, c3, c4]
              · by_cases c5 : b = 0
                · right
                  have : okAt p k = false := by rw [hage]; simp [hA, nxtOk, c3, c5, k0]
                  refine ⟨.ret (B false), u, ?_, (fun v hv => by cases hv), .inr ⟨rfl, bad this⟩, rfl⟩
                  unfold f82_l1
                  generalize ((k - 1 : Nat) : Int) = K0 at w2 ix1
                  generalize (k : Int) = K at *
                  simp [c0, hat, c1, c2, ck0, w2, ix1, ld1, c3, c4, c5]
                · left
                  have : okAt p k = true := by
                    have h1 : b ≤ a := by omega
                    rw [hage]; simp [hA, nxtOk, h1, c5]
                  refine ⟨[Z (.ptr s.size 0), .v (.agg [.int .i64 p.a0, .int .i64 p.a1, .int .i64 p.a2, .int .i64 p.a3]), I .i64 ((k + 1 : Nat) : Int)], u, q - 1, ?_, by omega, k + 1, by omega, rfl, rfl, next this⟩
                  unfold f82_l1
                  generalize ((k + 1 : Nat) : Int) = K1 at w1 ⊢
                  generalize ((k - 1 : Nat) : Int) = K0 at w2 ix1
                  generalize (k : Int) = K at *
                  simp [c0, hat, c1, c2, ck0, w2, ix1, ld1, c3, c4, c5, w1]
    · right
      have hk' : k = 4 := by omega
      subst hk'
      refine ⟨.exit 0 [Z (.ptr s.size 0)], u, ?_, (fun v hv => by cases hv), .inl ⟨rfl, (agesOk_iff p).2 hok⟩, rfl⟩
      unfold f82_l1
      simp) 8192 4 [Z (.ptr s.size 0), .v (.agg [.int .i64 p.a0, .int .i64 p.a1, .int .i64 p.a2, .int .i64 p.a3]), I .i64 0] s1 ⟨0, rfl, rfl, rfl, fun j hj => by omega⟩ (by omega)
  subst hτ
  refine ⟨τ, ?_, g⟩
  have ix3 : aIndexArr 4 1 (Z (.ptr s.size 0)) (I .i64 3) = some (Z (.ptr s.size 3)) := rfl
  have ld3 := ld 3 (by omega)
  generalize (T.v (.agg [.int .i64 p.a0, .int .i64 p.a1, .int .i64 p.a2, .int .i64 p.a3])) = L at l4 lp
  rcases hj with ⟨rfl, ha⟩ | ⟨rfl, ha⟩
  · have hm : mayP p = (decide (p.a3 = 0) && decide (1 ≤ p.c) && decide (p.c ≤ 64) && decide (1 ≤ p.n) && decide (p.n ≤ 200)) := by simp [mayP, ha]
    rw [hm]
    by_cases d1 : p.a3 = 0
    · by_cases d2 : 1 ≤ p.c
      · by_cases d3 : p.c ≤ 64
        · by_cases d4 : 1 ≤ p.n
          · simp [nw, l4, lp, ix3, ld3, ld4, ld5, ageAt, d1, d2, d3, d4]
          · simp [nw, l4, lp, ix3, ld3, ld4, ld5, ageAt, d1, d2, d3, d4]
        · simp [nw, l4, lp, ix3, ld3, ld4, ld5, ageAt, d1, d2, d3]
      · simp [nw, l4, lp, ix3, ld3, ld4, ld5, ageAt, d1, d2]
    · simp [nw, l4, lp, ix3, ld3, ageAt, d1]
  · have hm : mayP p = false := by simp [mayP, ha]
    rw [hm]
    simp [nw, l4, lp]

/-! ### A line -/

def tNames : List Bs := [[114, 97, 119], [53, 109], [49, 104], [49, 100]]
def kKeep : Bs := [107, 101, 101, 112]
def kSeal : Bs := [115, 101, 97, 108]
def kSpan : Bs := [115, 112, 97, 110]
def kEver : Bs := [101, 118, 101, 114]

theorem names_run (d : Nat) (wf : s.wf) : ∃ x t, R (d + 1) 98 [] s = some (Z x, t) ∧ FT s t x tNames := by
  rw [f98_run]
  unfold f98
  refine ⟨.sl s.size 0 4 (.known 4), s.push (.cells true (strS tNames)), ?_, Fr.lit 1 wf rfl⟩
  simp [aNew, nSlice, aFill, V.cells, setRange, strS, tNames]

def setAge (p : Pol) (k : Int) (n : Int) : Pol :=
  if k = 0 then { p with a0 := n } else if k = 1 then { p with a1 := n } else if k = 2 then { p with a2 := n } else { p with a3 := n }

def lineP (p : Pol) (ws : List Bs) : Option Pol :=
  let last := ws.getD (ws.length - 1) []
  if ws.getD 0 [] = kKeep ∧ ws.length = 3 then
    if ixT (ws.getD 1 []) tNames 0 < 0 ∨ (numOk last = false ∧ ws.getD 2 [] ≠ kEver) then none else some (setAge p (ixT (ws.getD 1 []) tNames 0) (numV last))
  else if ws.getD 0 [] = kSeal ∧ ws.length = 2 ∧ numOk last = true then some { p with c := numV last }
  else if ws.getD 0 [] = kSpan ∧ ws.length = 2 ∧ numOk last = true then some { p with n := numV last }
  else none

/-- All but one block is as it was. -/
def But (i : Nat) (s t : St) : Prop := t.wf ∧ s.size ≤ t.size ∧ ∀ b, b < s.size → b ≠ i → t.get b = s.get b
theorem Gr.but {s t : St} (h : Gr s t) (i : Nat) : But i s t := ⟨h.1, h.2.1, fun b hb _ => h.2.2 b hb⟩
theorem But.trans {i : Nat} {a b c : St} (h : But i a b) (k : But i b c) : But i a c := ⟨k.1, Nat.le_trans h.2.1 k.2.1, fun x hx hi => by rw [k.2.2 x (Nat.lt_of_lt_of_le hx h.2.1) hi, h.2.2 x hx hi]⟩
theorem But.set {i : Nat} {s : St} (wf : s.wf) (hi : i < s.size) (b : Blk) : But i s (s.set i b) := ⟨St.wf_set wf hi _, by simp, fun c hc hne => St.get_set_ne _ _ hne⟩

theorem set_age {p : Pol} {j : Nat} {n : Int} (hj : j < 4) : setRange (cP p) j [.int .i64 n] = cP (setAge p (j : Nat) n) := by
  match j, hj with
  | 0, _ => rfl
  | 1, _ => rfl
  | 2, _ => rfl
  | 3, _ => rfl

theorem line_run (d : Nat) (wf : s.wf) {p : Pol} {ws : List Bs} (hp : s.get i = some (.cells true (cP p))) (hx : RT s x ws) (hox : ∀ c, own x = some c → c < s.size ∧ c ≠ i) (hne : ws ≠ []) (hl : ws.length ≤ 100000) :
    ∃ t, R (d + 6) 80 [Z (.ptr i 0), Z x] s = some (B (lineP p ws).isSome, t) ∧ But i s t ∧ t.get i = some (.cells true (cP ((lineP p ws).getD p))) := by
  rw [f80_run]
  unfold f80
  have hi := wf.lt hp
  have hpos : 0 < ws.length := by
    cases ws with
    | nil => exact absurd rfl hne
    | cons _ _ => simp
  have at_ : ∀ (u : St), Gr s u → ∀ j : Nat, j < ws.length → ∃ q, aIndexSl 1 (Z x) (I .i64 (j : Nat)) = some q ∧ aLoad1 q u.get = some (Z (.str (ws.getD j []))) := fun u g j hj => by
    have hx' : RT u x ws := hx.gr (fun c hc => (hox c hc).1) g
    exact RT.atT hx' rfl (by simp [List.getD, hj])
  have fixp : ∀ (u v : St) j, j < ws.length → ∀ q, aIndexSl 1 (Z x) (I .i64 ((j : Nat) : Int)) = some q → Gr s u → aLoad1 q u.get = some (Z (.str (ws.getD j []))) := fun u v j hj q hq g => by
    obtain ⟨q', h1, h2⟩ := at_ u g j hj
    rw [hq] at h1
    cases h1
    exact h2
  have hlen := hx.lens
  have w1 : IntKind.i64.wrap ((ws.length : Int) - 1) = ((ws.length - 1 : Nat) : Int) := by rw [wrap_in _ (by omega) (by omega)]; omega
  obtain ⟨ql, ixl, ldl⟩ := at_ s (Gr.refl wf) (ws.length - 1) (by omega)
  obtain ⟨s1, e1, g1⟩ := number_run (l := ws.getD (ws.length - 1) []) d wf
  obtain ⟨last, hlast⟩ : ∃ last, last = ws.getD (ws.length - 1) [] := ⟨_, rfl⟩
  rw [← hlast] at ldl e1
  obtain ⟨q0, ix0, ld0⟩ := at_ s1 g1 0 hpos
  obtain ⟨w0, hw0⟩ : ∃ w, w = ws.getD 0 [] := ⟨_, rfl⟩
  rw [← hw0] at ld0
  have hp1 : s1.get i = some (.cells true (cP p)) := by rw [g1.2.2 i hi]; exact hp
  have hi1 : i < s1.size := Nat.lt_of_lt_of_le hi g1.2.1
  have hdef : lineP p ws = if w0 = kKeep ∧ ws.length = 3 then
    if ixT (ws.getD 1 []) tNames 0 < 0 ∨ (numOk last = false ∧ ws.getD 2 [] ≠ kEver) then none else some (setAge p (ixT (ws.getD 1 []) tNames 0) (numV last))
      else if w0 = kSeal ∧ ws.length = 2 ∧ numOk last = true then some { p with c := numV last }
      else if w0 = kSpan ∧ ws.length = 2 ∧ numOk last = true then some { p with n := numV last } else none := by rw [hw0, hlast]; rfl
  rw [hdef]
  have k1 : (Z (.str [107, 101, 101, 112]) : T) = Z (.str kKeep) := rfl
  have k2 : (Z (.str [115, 101, 97, 108]) : T) = Z (.str kSeal) := rfl
  have k3 : (Z (.str [115, 112, 97, 110]) : T) = Z (.str kSpan) := rfl
  have k4 : (Z (.str [101, 118, 101, 114]) : T) = Z (.str kEver) := rfl
  rw [k1, k2, k3, k4]
  have ix0' : aIndexSl 1 (Z x) (I .i64 0) = some q0 := ix0
  by_cases hk : w0 = kKeep ∧ ws.length = 3
  · rw [if_pos hk]
    obtain ⟨hk0, hk3⟩ := hk
    obtain ⟨y, s2, e2, f2⟩ := names_run (d + 4) g1.wf
    have g2 := g1.trans f2.gr
    obtain ⟨q1, ix1, ld1⟩ := at_ s2 g2 1 (by omega)
    have ld1' := fixp s1 s1 1 (by omega) q1 ix1 g1
    obtain ⟨q2, ix2, ld2⟩ := at_ s2 g2 2 (by omega)
    obtain ⟨w1', hw1⟩ : ∃ w, w = ws.getD 1 [] := ⟨_, rfl⟩
    obtain ⟨w2', hw2⟩ : ∃ w, w = ws.getD 2 [] := ⟨_, rfl⟩
    rw [← hw1] at ld1 ld1' ⊢
    rw [← hw2] at ld2 ⊢
    have e3 := indexT_run (v := w1') (d + 4) f2.rd (by decide)
    have ix1' : aIndexSl 1 (Z x) (I .i64 1) = some q1 := ix1
    have ix2' : aIndexSl 1 (Z x) (I .i64 2) = some q2 := ix2
    have hp2 : s2.get i = some (.cells true (cP p)) := by rw [f2.gr.2.2 i hi1]; exact hp1
    have c3 : (ws.length : Int) = 3 := by omega
    have ckk : decide (aLoad1 q1 s1.get = aLoad1 q1 s2.get) = true := decide_eq_true (by rw [ld1, ld1'])
    simp only [Nat.add_assoc, Nat.reduceAdd] at e2 e3
    generalize R (d + 5) = r at *
    rcases ixT_range w1' tNames 0 with hx1 | ⟨j, hj1, hj2, _⟩
    · rw [hx1] at e3 ⊢
      refine ⟨s2, ?_, Gr.but g2 i, by simp; exact hp2⟩
      generalize ((ws.length - 1 : Nat) : Int) = L1 at *
      have w1c : IntKind.i64.wrap 2 = L1 := by rw [c3] at w1; exact w1
      simp [hlen, w1c, ixl, ldl, e1, aExtract, ix0', ld0, hk0, c3, e2, ix1', ld1, ld1', e3, gtt]
    · rw [hj2] at e3 ⊢
      rw [Nat.zero_add] at e3 ⊢
      have c4 : ¬ ((j : Nat) : Int) < 0 := by omega
      have hj4 : j < 4 := hj1
      by_cases hbad : numOk last = false ∧ w2' ≠ kEver
      · rw [if_pos (.inr hbad)]
        refine ⟨s2, ?_, Gr.but g2 i, by simp; exact hp2⟩
        generalize ((ws.length - 1 : Nat) : Int) = L1 at *
        generalize ((j : Nat) : Int) = J at *
        have w1c : IntKind.i64.wrap 2 = L1 := by rw [c3] at w1; exact w1
        simp [hlen, w1c, ixl, ldl, e1, aExtract, ix0', ld0, hk0, c3, e2, ix1', ld1, ld1', e3, gtt, c4, hbad.1, ix2', ld2, hbad.2]
      · have hn : ¬ (((j : Nat) : Int) < 0 ∨ (numOk last = false ∧ w2' ≠ kEver)) := fun h => h.elim c4 hbad
        rw [if_neg hn]
        obtain ⟨s3, hs3⟩ : ∃ s3, s3 = s2.set i (.cells true (cP (setAge p (j : Nat) (numV last)))) := ⟨_, rfl⟩
        have ixa : aIndexArr 4 1 (Z (.ptr i 0)) (I .i64 (j : Nat)) = some (Z (.ptr i j)) := by
          match j, hj4 with
          | 0, _ => rfl
          | 1, _ => rfl
          | 2, _ => rfl
          | 3, _ => rfl
        have st := aStore1_of (σ := s2) (i := i) (o := j) (x := .int .i64 (numV last)) hp2 (by simp [cP]; omega)
        rw [set_age hj4, ← hs3] at st
        refine ⟨s3, ?_, (Gr.but g2 i).trans (by rw [hs3]; exact But.set (Gr.wf g2) (Nat.lt_of_lt_of_le hi g2.2.1) _), by rw [hs3]; exact St.get_set_same _ _ _⟩
        generalize ((ws.length - 1 : Nat) : Int) = L1 at *
        generalize ((j : Nat) : Int) = J at *
        have w1c : IntKind.i64.wrap 2 = L1 := by rw [c3] at w1; exact w1
        cases hno : numOk last with
        | true =>
          rw [hno] at e1
          simp [hlen, w1c, ixl, ldl, e1, aExtract, ix0', ld0, hk0, c3, e2, ix1', ld1, ld1', e3, gtt, c4, ixa, st]
        | false =>
          rw [hno] at e1
          have hev : w2' = kEver := by
            apply Classical.byContradiction
            intro h
            exact hbad ⟨hno, h⟩
          simp [hlen, w1c, ixl, ldl, e1, aExtract, ix0', ld0, hk0, c3, e2, ix1', ld1, ld1', e3, gtt, c4, ix2', ld2, hev, ixa, st]
  · rw [if_neg hk]
    have hkk : w0 = kKeep → ¬ (ws.length : Int) = 3 := fun h h2 => hk ⟨h, by omega⟩
    by_cases hs : w0 = kSeal ∧ ws.length = 2 ∧ numOk last = true
    · rw [if_pos hs]
      obtain ⟨a1, a2, a3⟩ := hs
      have c2 : (ws.length : Int) = 2 := by omega
      have n1 : ¬ kSeal = kKeep := by decide
      have st := aStore1_of (σ := s1) (i := i) (o := 4) (x := .int .i64 (numV last)) hp1 (by simp [cP])
      refine ⟨s1.set i (.cells true (cP { p with c := numV last })), ?_, (Gr.but g1 i).trans (But.set (Gr.wf g1) hi1 _), by simp⟩
      have hset : setRange (cP p) 4 [.int .i64 (numV last)] = cP { p with c := numV last } := rfl
      rw [hset] at st
      rw [a3] at e1
      generalize R (d + 5) = r at *
      generalize ((ws.length - 1 : Nat) : Int) = L1 at *
      have w1c : IntKind.i64.wrap 1 = L1 := by rw [c2] at w1; exact w1
      simp [hlen, w1c, ixl, ldl, e1, aExtract, ix0', ld0, a1, n1, c2, st]
    · rw [if_neg hs]
      by_cases hq : w0 = kSpan ∧ ws.length = 2 ∧ numOk last = true
      · rw [if_pos hq]
        obtain ⟨a1, a2, a3⟩ := hq
        have c2 : (ws.length : Int) = 2 := by omega
        have n1 : ¬ kSpan = kKeep := by decide
        have n2 : ¬ kSpan = kSeal := by decide
        have st := aStore1_of (σ := s1) (i := i) (o := 5) (x := .int .i64 (numV last)) hp1 (by simp [cP])
        refine ⟨s1.set i (.cells true (cP { p with n := numV last })), ?_, (Gr.but g1 i).trans (But.set (Gr.wf g1) hi1 _), by simp⟩
        have hset : setRange (cP p) 5 [.int .i64 (numV last)] = cP { p with n := numV last } := rfl
        rw [hset] at st
        rw [a3] at e1
        generalize R (d + 5) = r at *
        generalize ((ws.length - 1 : Nat) : Int) = L1 at *
        have w1c : IntKind.i64.wrap 1 = L1 := by rw [c2] at w1; exact w1
        simp [hlen, w1c, ixl, ldl, e1, aExtract, ix0', ld0, a1, n1, n2, c2, st]
      · rw [if_neg hq]
        refine ⟨s1, ?_, Gr.but g1 i, by simp; exact hp1⟩
        have hss : w0 = kSeal → (ws.length : Int) = 2 → numOk last = false := fun h h2 => by
          cases hn : numOk last with
          | false => rfl
          | true => exact absurd ⟨h, by omega, hn⟩ hs
        have hqq : w0 = kSpan → (ws.length : Int) = 2 → numOk last = false := fun h h2 => by
          cases hn : numOk last with
          | false => rfl
          | true => exact absurd ⟨h, by omega, hn⟩ hq
        generalize R (d + 5) = r at *
        generalize ((ws.length - 1 : Nat) : Int) = L1 at *
        have n1 : ¬ kSeal = kKeep := by decide
        have n2 : ¬ kSpan = kKeep := by decide
        have n3 : ¬ kSpan = kSeal := by decide
        have n4 : ¬ kSeal = kSpan := by decide
        have n5 : ¬ kKeep = kSpan := by decide
        have n6 : ¬ kKeep = kSeal := by decide
        by_cases b1 : w0 = kKeep
        · have c3 := hkk b1
          simp [hlen, w1, ixl, ldl, e1, aExtract, ix0', ld0, b1, c3, n5, n6]
        · by_cases b2 : w0 = kSeal
          · by_cases c2 : (ws.length : Int) = 2
            · have := hss b2 c2
              have w1c : IntKind.i64.wrap 1 = L1 := by rw [c2] at w1; exact w1
              simp [hlen, w1c, ixl, ldl, e1, aExtract, ix0', ld0, b2, n1, n4, c2, this]
            · simp [hlen, w1, ixl, ldl, e1, aExtract, ix0', ld0, b2, n1, n4, c2]
          · by_cases b3 : w0 = kSpan
            · by_cases c2 : (ws.length : Int) = 2
              · have := hqq b3 c2
                have w1c : IntKind.i64.wrap 1 = L1 := by rw [c2] at w1; exact w1
                simp [hlen, w1c, ixl, ldl, e1, aExtract, ix0', ld0, b3, n2, n3, c2, this]
              · simp [hlen, w1, ixl, ldl, e1, aExtract, ix0', ld0, b3, n2, n3, c2]
            · simp [hlen, w1, ixl, ldl, e1, aExtract, ix0', ld0, b1, b2, b3]
end
end Go.Proofs.YtlhbidbdmdcdeaaGreatDoor
