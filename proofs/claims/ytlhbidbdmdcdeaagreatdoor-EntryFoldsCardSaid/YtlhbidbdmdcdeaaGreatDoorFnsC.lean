/-
  Several texts in one: what functions that the law reaches compute. No conditions but those named in each line.
-/
import Derived.Test.YtlhbidbdmdcdeaaGreatDoorFnsB
import Derived.Test.YtlhbidbdmdcdeaaGreatDoorFnsA
/-
  Entries: what entry.May, Put and Same compute, in any store. No conditions but those named in each line.
-/
namespace Go.Proofs.YtlhbidbdmdcdeaaGreatDoor
open Go Go.Abs Go.Abs.F
set_option linter.unusedVariables false

structure Ent where
  k : Int
  v : Int
  i : Int
  t : Int
  f : Int
  o : Int
  u : Int
  x : Bs
  deriving DecidableEq

def cE (e : Ent) : List S := [.int .i64 e.k, .int .i64 e.v, .int .i64 e.i, .int .i64 e.t, .int .i64 e.f, .int .i64 e.o, .int .u32 e.u, .str e.x]
abbrev AE (e : Ent) : T := .v (.agg (cE e))
def ent0 : Ent := ⟨0, 0, 0, 0, 0, 0, 0, []⟩
theorem cE_len (e : Ent) : (cE e).length = 8 := rfl

def idOk (n : Int) : Bool := decide (1 ≤ n) && decide (n ≤ 1073741824)
def mayE (e : Ent) : Bool :=
  if e.v < 0 ∨ 1073741824 < e.v then false
  else if e.k = 1 then decide (e.x = []) && idOk e.i && decide (0 ≤ e.t) && decide (e.t < 4) && decide (0 ≤ e.f) && decide (e.f < e.o) && decide (e.o ≤ 1099511627776)
  else if e.k = 2 then idOk e.i && decide (e = { ent0 with k := 2, v := e.v, i := e.i })
  else if e.k = 3 then decide (0 < e.v) && decide (e = { ent0 with k := 3, v := e.v })
  else if e.k = 4 then decide (e.x.length ≤ 300) && decide (e = { ent0 with k := 4, v := e.v, x := e.x }) && decide ((parseP e.x).2.1 = 0)
  else false

section
variable {s t : St} {x y : S} {l : Bs} {i : Nat}

theorem eqE (a b : Ent) : aEq (.a 8 [(0, .i), (1, .i), (2, .i), (3, .i), (4, .i), (5, .i), (6, .i), (7, .s)]) (AE a) (AE b) = some (decide (a = b)) := by
  obtain ⟨a1, a2, a3, a4, a5, a6, a7, a8⟩ := a
  obtain ⟨b1, b2, b3, b4, b5, b6, b7, b8⟩ := b
  show some (decide (a1 = b1) && (decide (a2 = b2) && (decide (a3 = b3) && (decide (a4 = b4) && (decide (a5 = b5) && (decide (a6 = b6) && (decide (a7 = b7) && (decide (a8 = b8) && true)))))))) = some (decide (Ent.mk a1 a2 a3 a4 a5 a6 a7 a8 = Ent.mk b1 b2 b3 b4 b5 b6 b7 b8))
  simp only [Ent.mk.injEq, Bool.and_true, Bool.decide_and]

theorem eqBE (a b : Ent) : eqB (.a 8 [(0, .i), (1, .i), (2, .i), (3, .i), (4, .i), (5, .i), (6, .i), (7, .s)]) (AE a) (AE b) = some (B (decide (a = b))) := by
  simp only [eqB, eqE]
theorem neBE (a b : Ent) : neB (.a 8 [(0, .i), (1, .i), (2, .i), (3, .i), (4, .i), (5, .i), (6, .i), (7, .s)]) (AE a) (AE b) = some (B (!decide (a = b))) := by
  simp only [neB, eqE]

theorem load8 {i : Nat} {w : Bool} {e : Ent} {g : Mem} (h : g i = some (.cells w (cE e))) : aLoadN 8 (Z (.ptr i 0)) g = some (AE e) := by
  simp [aLoadN, h, cE]
theorem store8 {i : Nat} {vs : List S} {e : Ent} (h : s.get i = some (.cells true vs)) (hv : vs.length = 8) : aStore 8 (Z (.ptr i 0)) (AE e) s = some (tt, s.set i (.cells true (cE e))) := by
  have hb : (V.agg (cE e)).cells.length = 8 ∧ 0 + 8 ≤ vs.length := ⟨rfl, by omega⟩
  simp only [aStore, h, if_pos hb]
  rw [show (V.agg (cE e)).cells = cE e from rfl, setRange_all (by rw [hv]; rfl)]
theorem agg8 : asAggT (aFill [.int .i64 0, .int .i64 0, .int .i64 0, .int .i64 0, .int .i64 0, .int .i64 0, .int .u32 0, .str []] []) = some (AE ent0) := rfl

theorem same_run (d : Nat) (wf : s.wf) (a b : Ent) : ∃ t, R (d + 1) 39 [AE a, AE b] s = some (B (decide (a = b)), t) ∧ Gr s t := by
  rw [f39_run]
  unfold f39
  obtain ⟨s1, hs1⟩ : ∃ s1, s1 = s.push (.cells true (cE a)) := ⟨_, rfl⟩
  have nw1 : aNew s (nBox (AE a)) = some (Z (.ptr s.size 0), s1) := by rw [hs1]; rfl
  have g1 : Gr s s1 := by rw [hs1]; exact Gr.push wf _
  have h1 : s1.get s.size = some (.cells true (cE a)) := by rw [hs1]; exact St.get_push_same _ _
  obtain ⟨s2, hs2⟩ : ∃ s2, s2 = s1.push (.cells true (cE b)) := ⟨_, rfl⟩
  have nw2 : aNew s1 (nBox (AE b)) = some (Z (.ptr s1.size 0), s2) := by rw [hs2]; rfl
  have g2 : Gr s1 s2 := by rw [hs2]; exact Gr.push g1.wf _
  have h2 : s2.get s1.size = some (.cells true (cE b)) := by rw [hs2]; exact St.get_push_same _ _
  have l1 := load8 (g := s2.get) (g2.get h1 g1.wf)
  have l2 := load8 (g := s2.get) h2
  have e := eqBE a b
  exact ⟨s2, by simp [nw1, nw2, l1, l2, e], g1.trans g2⟩

theorem id_run (d : Nat) (n : Int) : R (d + 1) 50 [I .i64 n] s = some (B (idOk n), s) := by
  rw [f50_run]
  unfold f50
  by_cases h : 1 ≤ n
  · simp [idOk, h]
  · simp [idOk, h]

theorem mayE_run (d : Nat) (wf : s.wf) (e : Ent) : ∃ t, R (d + 8) 30 [AE e] s = some (B (mayE e), t) ∧ Gr s t := by
  rw [f30_run]
  unfold f30
  obtain ⟨s1, hs1⟩ : ∃ s1, s1 = s.push (.cells true (cE e)) := ⟨_, rfl⟩
  have nw1 : aNew s (nBox (AE e)) = some (Z (.ptr s.size 0), s1) := by rw [hs1]; rfl
  have g1 : Gr s s1 := by rw [hs1]; exact Gr.push wf _
  have h1 : s1.get s.size = some (.cells true (cE e)) := by rw [hs1]; exact St.get_push_same _ _
  have l0 : aLoad1 (Z (.ptr s.size 0)) s1.get = some (I .i64 e.k) := aLoad1_of h1 rfl
  have l1 : aLoad1 (Z (.ptr s.size 1)) s1.get = some (I .i64 e.v) := aLoad1_of h1 rfl
  have l2 : aLoad1 (Z (.ptr s.size 2)) s1.get = some (I .i64 e.i) := aLoad1_of h1 rfl
  have l3 : aLoad1 (Z (.ptr s.size 3)) s1.get = some (I .i64 e.t) := aLoad1_of h1 rfl
  have l4 : aLoad1 (Z (.ptr s.size 4)) s1.get = some (I .i64 e.f) := aLoad1_of h1 rfl
  have l5 : aLoad1 (Z (.ptr s.size 5)) s1.get = some (I .i64 e.o) := aLoad1_of h1 rfl
  have l7 : aLoad1 (Z (.ptr s.size 7)) s1.get = some (Z (.str e.x)) := aLoad1_of h1 rfl
  have l8 := load8 (g := s1.get) h1
  have eid := id_run (s := s1) (d + 6) e.i
  simp only [Nat.add_assoc, Nat.reduceAdd] at eid
  by_cases c1 : e.v < 0
  · refine ⟨s1, ?_, g1⟩
    have hm : mayE e = false := by simp [mayE, c1]
    rw [hm]
    simp [nw1, l1, c1]
  · by_cases c2 : 1073741824 < e.v
    · refine ⟨s1, ?_, g1⟩
      have hm : mayE e = false := by simp [mayE, c2]
      rw [hm]
      simp [nw1, l1, c1, c2]
    · have hv : ¬ (e.v < 0 ∨ 1073741824 < e.v) := fun h => h.elim c1 c2
      by_cases k1 : e.k = 1
      · have hm : mayE e = (decide (e.x = []) && idOk e.i && decide (0 ≤ e.t) && decide (e.t < 4) && decide (0 ≤ e.f) && decide (e.f < e.o) && decide (e.o ≤ 1099511627776)) := by
          unfold mayE; rw [if_neg hv, if_pos k1]
        rw [hm]
        refine ⟨s1, ?_, g1⟩
        by_cases d1 : e.x = []
        · cases d2 : idOk e.i with
          | true =>
            rw [d2] at eid
            by_cases d3 : 0 ≤ e.t
            · by_cases d4 : e.t < 4
              · by_cases d5 : 0 ≤ e.f
                · by_cases d6 : e.f < e.o
                  · simp [nw1, l0, l1, l2, l3, l4, l5, l7, c1, c2, k1, d1, eid, d3, d4, d5, d6]
                  · simp [nw1, l0, l1, l2, l3, l4, l5, l7, c1, c2, k1, d1, eid, d3, d4, d5, d6]
                · simp [nw1, l0, l1, l2, l3, l4, l5, l7, c1, c2, k1, d1, eid, d3, d4, d5]
              · simp [nw1, l0, l1, l2, l3, l4, l5, l7, c1, c2, k1, d1, eid, d3, d4]
            · simp [nw1, l0, l1, l2, l3, l4, l5, l7, c1, c2, k1, d1, eid, d3]
          | false =>
            rw [d2] at eid
            simp [nw1, l0, l1, l2, l3, l4, l5, l7, c1, c2, k1, d1, eid]
        · simp [nw1, l0, l1, l2, l3, l4, l5, l7, c1, c2, k1, d1]
      · by_cases k2 : e.k = 2
        · have hm : mayE e = (idOk e.i && decide (e = { ent0 with k := 2, v := e.v, i := e.i })) := by
            unfold mayE; rw [if_neg hv, if_neg k1, if_pos k2]
          rw [hm]
          refine ⟨s1, ?_, g1⟩
          have ag : asAggT (aFill [.int .i64 0, .int .i64 0, .int .i64 0, .int .i64 0, .int .i64 0, .int .i64 0, .int .u32 0, .str []] [(0, 1, (I .i64 2)), (1, 1, I .i64 e.v), (2, 1, I .i64 e.i)]) = some (AE { ent0 with k := 2, v := e.v, i := e.i }) := rfl
          have eq := eqBE e { ent0 with k := 2, v := e.v, i := e.i }
          generalize hD : decide (e = { ent0 with k := 2, v := e.v, i := e.i }) = D at *
          generalize ({ ent0 with k := 2, v := e.v, i := e.i } : Ent) = e2 at *
          cases d2 : idOk e.i with
          | true =>
            rw [d2] at eid
            simp [nw1, l0, l1, l2, l8, c1, c2, k2, eid, ag, eq]
          | false =>
            rw [d2] at eid
            simp [nw1, l0, l1, l2, l8, c1, c2, k2, eid]
        · by_cases k3 : e.k = 3
          · have hm : mayE e = (decide (0 < e.v) && decide (e = { ent0 with k := 3, v := e.v })) := by
              unfold mayE; rw [if_neg hv, if_neg k1, if_neg k2, if_pos k3]
            rw [hm]
            refine ⟨s1, ?_, g1⟩
            have ag : asAggT (aFill [.int .i64 0, .int .i64 0, .int .i64 0, .int .i64 0, .int .i64 0, .int .i64 0, .int .u32 0, .str []] [(0, 1, (I .i64 3)), (1, 1, I .i64 e.v)]) = some (AE { ent0 with k := 3, v := e.v }) := rfl
            have eq := eqBE e { ent0 with k := 3, v := e.v }
            generalize hD : decide (e = { ent0 with k := 3, v := e.v }) = D at *
            generalize ({ ent0 with k := 3, v := e.v } : Ent) = e2 at *
            by_cases d1 : 0 < e.v
            · simp [nw1, l0, l1, l8, c1, c2, k3, d1, ag, eq]
            · simp [nw1, l0, l1, l8, c1, c2, k3, d1]
          · by_cases k4 : e.k = 4
            · have hm : mayE e = (decide (e.x.length ≤ 300) && decide (e = { ent0 with k := 4, v := e.v, x := e.x }) && decide ((parseP e.x).2.1 = 0)) := by
                unfold mayE; rw [if_neg hv, if_neg k1, if_neg k2, if_neg k3, if_pos k4]
              rw [hm]
              have ag : asAggT (aFill [.int .i64 0, .int .i64 0, .int .i64 0, .int .i64 0, .int .i64 0, .int .i64 0, .int .u32 0, .str []] [(0, 1, (I .i64 4)), (1, 1, I .i64 e.v), (7, 1, Z (.str e.x))]) = some (AE { ent0 with k := 4, v := e.v, x := e.x }) := rfl
              have eq := neBE e { ent0 with k := 4, v := e.v, x := e.x }
              generalize hD : decide (e = { ent0 with k := 4, v := e.v, x := e.x }) = D at *
              generalize ({ ent0 with k := 4, v := e.v, x := e.x } : Ent) = e2 at *
              by_cases d1 : e.x.length ≤ 300
              · have d1' : ¬ (300 : Int) < (e.x.length : Int) := by omega
                cases D with
                | false =>
                  refine ⟨s1, ?_, g1⟩
                  simp [nw1, l0, l1, l7, l8, c1, c2, k4, d1', ag, eq]
                | true =>
                  obtain ⟨s2, e2', g2⟩ := parse_run (l := e.x) d g1.wf (by omega)
                  obtain ⟨s3, hs3⟩ : ∃ s3, s3 = s2.push (.cells true (cP pol0)) := ⟨_, rfl⟩
                  have nw3 : aNew s2 (nCells [.int .i64 0, .int .i64 0, .int .i64 0, .int .i64 0, .int .i64 0, .int .i64 0]) = some (Z (.ptr s2.size 0), s3) := by rw [hs3]; rfl
                  have g3 : Gr s2 s3 := by rw [hs3]; exact Gr.push g2.wf _
                  have st := store6 (p := (parseP e.x).1) (s := s3) (i := s2.size) (vs := cP pol0) (by rw [hs3]; exact St.get_push_same _ _) rfl
                  refine ⟨s3.set s2.size (.cells true (cP (parseP e.x).1)), ?_, g1.trans (g2.trans ⟨St.wf_set g3.wf (by rw [hs3]; simp) _, by simp; exact g3.2.1, fun b hb => by rw [St.get_set_ne _ _ (by omega)]; exact g3.2.2 b hb⟩)⟩
                  generalize R (d + 7) = r at *
                  simp [nw1, l0, l1, l7, l8, c1, c2, k4, d1', d1, ag, eq, e2', aExtract, nw3, st]
              · have d1' : (300 : Int) < (e.x.length : Int) := by omega
                refine ⟨s1, ?_, g1⟩
                simp [nw1, l0, l1, l7, c1, c2, k4, d1', d1]
            · have hm : mayE e = false := by unfold mayE; rw [if_neg hv, if_neg k1, if_neg k2, if_neg k3, if_neg k4]
              rw [hm]
              refine ⟨s1, ?_, g1⟩
              simp [nw1, l0, l1, c1, c2, k1, k2, k3, k4]

/-! ### Put -/

def nums (e : Ent) : List Nat :=
  if e.k = 1 then [e.i.toNat, e.t.toNat, e.f.toNat, e.o.toNat, e.u.toNat] else if e.k = 2 then [e.i.toNat] else if e.k = 4 then [e.x.length] else []
def putNs : List Nat → Bs
  | [] => []
  | n :: r => vput n ++ putNs r
def putB (e : Ent) : Bs := UInt8.ofNat e.k.toNat :: (vput e.v.toNat ++ putNs (nums e) ++ e.x)
def putE (e : Ent) : Option Bs := if mayE e then some (putB e) else none

def u64S (l : List Nat) : List S := l.map fun n : Nat => S.int .u64 ((n : Nat) : Int)
@[simp] theorem u64S_len (l : List Nat) : (u64S l).length = l.length := by simp [u64S]

theorem putNs_len : ∀ l : List Nat, (putNs l).length ≤ 11 * l.length
  | [] => by simp [putNs]
  | n :: r => by have := vput_len n; have := putNs_len r; simp [putNs]; omega
theorem putNs_snoc : ∀ (l : List Nat) (n : Nat), putNs (l ++ [n]) = putNs l ++ vput n
  | [], n => by simp [putNs]
  | m :: r, n => by simp [putNs, putNs_snoc r n]

theorem nums_len (e : Ent) : (nums e).length ≤ 5 := by
  unfold nums
  split
  · simp
  · split
    · simp
    · split <;> simp

theorem nums_loop (d : Nat) {s0 : St} {v0 : T} {acc : Bs} {ns : List Nat} (hb : FB s0 s y acc) (hx : Rd 1 s x ns.length (u64S ns)) (hox : ∀ c, own x = some c → c < s.size ∧ own y ≠ some c ∧ s0.size ≤ c) (hn : ∀ n ∈ ns, n < 2 ^ 64) (hl : ns.length ≤ 5) (ha : acc.length ≤ 1000) :
    ∃ (z : S) (τ : St), loops (f31_l1 (R (d + 1)) 8192) 8192 [v0, Z y, Z x, I .i64 ns.length, I .i64 0] s = some (.exit 1 [v0, Z z], τ) ∧ FB s0 τ z (acc ++ putNs ns) := by
  obtain ⟨j, τ, lp, z, rfl, hf⟩ := loops_inv (f := f31_l1 (R (d + 1)) 8192) (fun q v u => ∃ (k : Nat) (z : S), q + k = ns.length ∧ v = [v0, Z z, Z x, I .i64 ns.length, I .i64 k] ∧ FB s0 u z (acc ++ putNs (ns.take k)) ∧ Rd 1 u x ns.length (u64S ns) ∧ (∀ c, own x = some c → c < u.size ∧ own z ≠ some c))
    (fun j u => ∃ z, j = .exit 1 [v0, Z z] ∧ FB s0 u z (acc ++ putNs ns)) (by
    rintro q v u ⟨k, z, hk, rfl, hf, hr, ho⟩
    by_cases hkl : k < ns.length
    · left
      have hc : ns[k]? = some ns[k] := List.getElem?_eq_getElem hkl
      obtain ⟨p, ix, ld⟩ := Rd.at1 hr (n := ns.length) (i := (k : Int)) (v := .int .u64 (ns[k] : Int)) rfl (by simp [u64S, hc])
      have c0 : (k : Int) < (ns.length : Int) := by omega
      have w1 : IntKind.i64.wrap ((k : Int) + 1) = ((k + 1 : Nat) : Int) := by rw [wrap_in _ (by omega) (by omega)]; omega
      have htk : ns.take (k + 1) = ns.take k ++ [ns[k]] := by rw [List.take_add_one, hc]; rfl
      obtain ⟨p1, u1, e1, f1⟩ := vput_run d hf.gr.wf ns[k] (hn _ (List.getElem_mem hkl))
      have hf1 : FB s0 u1 z (acc ++ putNs (ns.take k)) := hf.gr' f1.gr
      have hpl : (putNs (ns.take k)).length ≤ 55 := by have := putNs_len (ns.take k); rw [List.length_take] at this; omega
      obtain ⟨z2, u2, ap, hf2, hz2, keep2, new2⟩ := FB.app' hf1 f1.rd (by have := vput_len ns[k]; simp; omega)
      have hr2 : Rd 1 u2 x ns.length (u64S ns) := hr.keep fun c hc' => by rw [keep2 c (Nat.lt_of_lt_of_le (ho c hc').1 f1.gr.2.1) (ho c hc').2, f1.gr.2.2 c (ho c hc').1]
      have ho2 : ∀ c, own x = some c → c < u2.size ∧ own z2 ≠ some c := fun c hc' => by
        have h1 := (ho c hc').1
        have h2 := f1.gr.2.1
        refine ⟨by omega, fun e => ?_⟩
        rcases new2 with n | n | ⟨c', n, hc2⟩
        · rw [n] at e; cases e
        · rw [n] at e; exact (ho c hc').2 e
        · rw [n] at e; cases e; omega
      refine ⟨[v0, Z z2, Z x, I .i64 ns.length, I .i64 ((k + 1 : Nat) : Int)], u2, q - 1, ?_, by omega, k + 1, z2, by omega, rfl, by rw [htk, putNs_snoc, ← List.append_assoc]; exact hf2, hr2, ho2⟩
      unfold f31_l1
      generalize R (d + 1) = r at *
      generalize ((k + 1 : Nat) : Int) = K1 at w1 ⊢
      generalize (k : Int) = K at *
      generalize (ns[k] : Int) = NK at *
      generalize (ns.length : Int) = L at *
      simp [c0, ix, ld, e1, ap, w1]
    · right
      have hk' : k = ns.length := by omega
      subst hk'
      rw [List.take_length] at hf
      refine ⟨.exit 1 [v0, Z z], u, ?_, (fun v hv => by cases hv), z, rfl, hf⟩
      unfold f31_l1
      simp) 8192 ns.length [v0, Z y, Z x, I .i64 ns.length, I .i64 0] s ⟨0, y, by omega, rfl, by simpa [putNs] using hb, hx, fun c hc => ⟨(hox c hc).1, (hox c hc).2.1⟩⟩ (by omega)
  exact ⟨z, τ, lp, hf⟩

/-- An entry whose numbers are of their kinds. -/
def EWf (e : Ent) : Prop := 0 ≤ e.u ∧ e.u < 4294967296

theorem mayE_range {e : Ent} (h : mayE e = true) : 0 ≤ e.v ∧ e.v ≤ 1073741824 ∧ 1 ≤ e.k ∧ e.k ≤ 4 ∧ (e.k = 1 → e.x = [] ∧ 1 ≤ e.i ∧ e.i ≤ 1073741824 ∧ 0 ≤ e.t ∧ e.t < 4 ∧ 0 ≤ e.f ∧ e.f < e.o ∧ e.o ≤ 1099511627776) ∧
    (e.k = 2 → 1 ≤ e.i ∧ e.i ≤ 1073741824 ∧ e = { ent0 with k := 2, v := e.v, i := e.i }) ∧ (e.k = 3 → 0 < e.v ∧ e = { ent0 with k := 3, v := e.v }) ∧ (e.k = 4 → e.x.length ≤ 300 ∧ e = { ent0 with k := 4, v := e.v, x := e.x } ∧ (parseP e.x).2.1 = 0) := by
  unfold mayE at h
  split at h
  · cases h
  · rename_i hv
    have hv' : 0 ≤ e.v ∧ e.v ≤ 1073741824 := by omega
    refine ⟨hv'.1, hv'.2, ?_⟩
    by_cases k1 : e.k = 1
    · rw [if_pos k1] at h
      simp only [Bool.and_eq_true, decide_eq_true_eq, idOk] at h
      refine ⟨by omega, by omega, fun _ => ?_, (fun h2 => by omega), (fun h2 => by omega), (fun h2 => by omega)⟩
      obtain ⟨⟨⟨⟨⟨⟨a, b, b'⟩, c⟩, d⟩, f⟩, g⟩, o⟩ := h
      exact ⟨a, b, b', c, d, f, g, o⟩
    · rw [if_neg k1] at h
      by_cases k2 : e.k = 2
      · rw [if_pos k2] at h
        simp only [Bool.and_eq_true, decide_eq_true_eq, idOk] at h
        exact ⟨by omega, by omega, (fun h2 => by omega), fun _ => ⟨h.1.1, h.1.2, h.2⟩, (fun h2 => by omega), (fun h2 => by omega)⟩
      · rw [if_neg k2] at h
        by_cases k3 : e.k = 3
        · rw [if_pos k3] at h
          simp only [Bool.and_eq_true, decide_eq_true_eq] at h
          exact ⟨by omega, by omega, (fun h2 => by omega), (fun h2 => by omega), fun _ => h, (fun h2 => by omega)⟩
        · rw [if_neg k3] at h
          by_cases k4 : e.k = 4
          · rw [if_pos k4] at h
            simp only [Bool.and_eq_true, decide_eq_true_eq] at h
            exact ⟨by omega, by omega, (fun h2 => by omega), (fun h2 => by omega), (fun h2 => by omega), fun _ => ⟨h.1.1, h.1.2, h.2⟩⟩
          · rw [if_neg k4] at h
            cases h

theorem nums_lt {e : Ent} (h : mayE e = true) (hw : EWf e) : ∀ n ∈ nums e, n < 2 ^ 64 := by
  obtain ⟨_, _, _, _, h1, h2, _, h4⟩ := mayE_range h
  have := hw.2
  intro n hn
  unfold nums at hn
  split at hn
  · rename_i k
    have := h1 k
    simp at hn
    rcases hn with rfl | rfl | rfl | rfl | rfl <;> omega
  · split at hn
    · rename_i k
      have := h2 k
      simp at hn
      omega
    · split at hn
      · rename_i k
        have := h4 k
        simp at hn
        omega
      · cases hn

theorem putB_len {e : Ent} (h : e.x.length ≤ 300) : (putB e).length ≤ 400 := by
  have h1 := vput_len e.v.toNat
  have h2 := putNs_len (nums e)
  have h3 := nums_len e
  simp [putB]
  omega
theorem mayE_x {e : Ent} (h : mayE e = true) : e.x.length ≤ 300 := by
  obtain ⟨_, _, k1, k4, h1, h2, h3, h4⟩ := mayE_range h
  by_cases e1 : e.k = 1
  · rw [(h1 e1).1]; simp
  · by_cases e2 : e.k = 2
    · rw [(h2 e2).2.2]; simp [ent0]
    · by_cases e3 : e.k = 3
      · rw [(h3 e3).2]; simp [ent0]
      · exact (h4 (by omega)).1

theorem put_bad (d : Nat) (wf : s.wf) {e : Ent} (h : mayE e = false) : ∃ t, R (d + 9) 31 [AE e] s = some (.tup [.s .nils, .s (.int .i64 1)], t) ∧ Gr s t := by
  rw [f31_run]
  unfold f31
  obtain ⟨s1, hs1⟩ : ∃ s1, s1 = s.push (.cells true (cE e)) := ⟨_, rfl⟩
  have nw1 : aNew s (nBox (AE e)) = some (Z (.ptr s.size 0), s1) := by rw [hs1]; rfl
  have g1 : Gr s s1 := by rw [hs1]; exact Gr.push wf _
  have h1 : s1.get s.size = some (.cells true (cE e)) := by rw [hs1]; exact St.get_push_same _ _
  have l8 := load8 (g := s1.get) h1
  obtain ⟨s2, e2, g2⟩ := mayE_run d g1.wf e
  rw [h] at e2
  exact ⟨s2, by simp [nw1, l8, e2, retT, allV], g1.trans g2⟩

theorem put_run (d : Nat) (wf : s.wf) {e : Ent} (h : mayE e = true) (hw : EWf e) : ∃ y t, R (d + 9) 31 [AE e] s = some (.tup [.s y, .s (.int .i64 0)], t) ∧ FB s t y (putB e) := by
  rw [f31_run]
  unfold f31
  obtain ⟨r1, r2, r3, r4, hk1, hk2, hk3, hk4⟩ := mayE_range h
  obtain ⟨s1, hs1⟩ : ∃ s1, s1 = s.push (.cells true (cE e)) := ⟨_, rfl⟩
  have nw1 : aNew s (nBox (AE e)) = some (Z (.ptr s.size 0), s1) := by rw [hs1]; rfl
  have g1 : Gr s s1 := by rw [hs1]; exact Gr.push wf _
  have h1 : s1.get s.size = some (.cells true (cE e)) := by rw [hs1]; exact St.get_push_same _ _
  have z1 : s1.size = s.size + 1 := by rw [hs1]; rfl
  have l8 := load8 (g := s1.get) h1
  obtain ⟨s2, e2, g2⟩ := mayE_run d g1.wf e
  rw [h] at e2
  have h2 : s2.get s.size = some (.cells true (cE e)) := g2.get h1 g1.wf
  have hz2 : s.size + 1 ≤ s2.size := by have := g2.2.1; omega
  have lk : aLoad1 (Z (.ptr s.size 0)) s2.get = some (I .i64 e.k) := aLoad1_of h2 rfl
  have wk : IntKind.u8.wrap e.k = ((UInt8.ofNat e.k.toNat).toNat : Int) := by
    have := wrap8 e.k.toNat
    rw [show ((e.k.toNat : Nat) : Int) = e.k by omega] at this
    rw [this, byte_nat]
  obtain ⟨kb, hkb⟩ : ∃ kb, kb = UInt8.ofNat e.k.toNat := ⟨_, rfl⟩
  rw [← hkb] at wk
  obtain ⟨s4, hs4⟩ : ∃ s4, s4 = s2.push (.cells true (U [kb])) := ⟨_, rfl⟩
  have nw4 : aNew s2 (nSlice 1 (aFill [.int .u8 0] [(0, 1, I .u8 kb.toNat)])) = some (Z (.sl s2.size 0 1 (.known 1)), s4) := by rw [hs4, lit1]; rfl
  have f4 : FB s2 s4 (.sl s2.size 0 1 (.known 1)) [kb] := by rw [hs4]; exact Fr.lit 1 g2.wf rfl
  have h4 : s4.get s.size = some (.cells true (cE e)) := f4.gr.get h2 g2.wf
  have lv : aLoad1 (Z (.ptr s.size 1)) s4.get = some (I .i64 e.v) := aLoad1_of h4 rfl
  have wv : IntKind.u64.wrap e.v = (e.v.toNat : Int) := by rw [wrap_u64_in _ (by omega) (by omega)]; omega
  obtain ⟨y5, s5, e5, f5⟩ := vput_run (d + 7) f4.gr.wf e.v.toNat (by omega)
  have h5 : s5.get s.size = some (.cells true (cE e)) := f5.gr.get h4 f4.gr.wf
  have lk5 : aLoad1 (Z (.ptr s.size 0)) s5.get = some (I .i64 e.k) := aLoad1_of h5 rfl
  have hov : overlay 8 s5.get (ovO 3 s2.size (nSlice 1 (aFill [.int .u8 0] [(0, 1, I .u8 kb.toNat)])) []) = s5.get := rfl
  have f45 : FB s2 s5 (.sl s2.size 0 1 (.known 1)) [kb] := f4.gr' f5.gr
  obtain ⟨y6, s6, ap6, f6, z6, k6, n6⟩ := FB.app' f45 f5.rd (by have := vput_len e.v.toNat; simp; omega)
  have h6 : s6.get s.size = some (.cells true (cE e)) := f6.gr.get h2 g2.wf
  have hacc : ([kb] ++ vput e.v.toNat).length ≤ 1000 := by have := vput_len e.v.toNat; simp; omega
  have L : ∀ (j : Nat) (x : S), (cE e)[j]? = some x → aLoad1 (Z (.ptr s.size j)) s6.get = some (Z x) := fun j x hx => aLoad1_of h6 hx
  have l0 := L 0 _ rfl
  have l2 := L 2 _ rfl
  have l3 := L 3 _ rfl
  have l4 := L 4 _ rfl
  have l5 := L 5 _ rfl
  have l6 := L 6 _ rfl
  have l7 := L 7 _ rfl
  -- behind the numbers
  have fin : ∀ (z : S) (τ : St), FB s2 τ z ([kb] ++ vput e.v.toNat ++ putNs (nums e)) → ∃ y t, aLoad1 (Z (.ptr s.size 7)) τ.get = some (Z (.str e.x)) ∧ aAppend 1 1 (Z z) (Z (.str e.x)) τ = some (Z y, t) ∧ FB s t y (putB e) := fun z τ hf => by
    have hx := mayE_x h
    have hn := putNs_len (nums e)
    have hn2 := nums_len e
    obtain ⟨y, t, ap, hf2, _⟩ := FB.appStr (cs := e.x) hf (by simp at hacc ⊢; omega)
    refine ⟨y, t, aLoad1_of (hf.gr.get h2 g2.wf) rfl, ap, ?_⟩
    have e1 : [kb] ++ vput e.v.toNat ++ putNs (nums e) ++ e.x = putB e := by rw [hkb]; simp [putB]
    rw [e1] at hf2
    exact hf2.from (g1.trans g2)
  have hlt := nums_lt h hw
  have hnl := nums_len e
  have own6 : ∀ c, own y6 = some c → c < s6.size := fun c hc => (f6.new c hc).2
  -- a new slice of numbers
  have num : ∀ n, n = (nums e).length → ∃ z τ, loops (f31_l1 (R (d + 8)) 8192) 8192 [Z (.ptr s.size 0), Z y6, Z (.sl s6.size 0 n (.known n)), I .i64 (n : Nat), I .i64 0] (s6.push (.cells true (u64S (nums e)))) = some (.exit 1 [Z (.ptr s.size 0), Z z], τ) ∧ FB s2 τ z ([kb] ++ vput e.v.toNat ++ putNs (nums e)) := fun n hn => by
    subst hn
    have L := Fr.lit 1 f6.gr.wf (n := (nums e).length) (vs := u64S (nums e)) (by simp)
    exact nums_loop (d + 7) (v0 := Z (.ptr s.size 0)) (f6.gr' L.gr) L.rd (fun c hc => by
      cases hc
      exact ⟨by simp, (fun e => by have := own6 _ e; omega), by have := f6.gr.2.1; omega⟩) hlt hnl hacc
  simp only [Nat.add_assoc, Nat.reduceAdd] at e5
  by_cases c1 : e.k = 1
  · have ns : nums e = [e.i.toNat, e.t.toNat, e.f.toNat, e.o.toNat, e.u.toNat] := by unfold nums; rw [if_pos c1]
    obtain ⟨_, i1, i2, t1, t2, q1, q2, q3⟩ := hk1 c1
    have hu := hw.1
    have hu2 := hw.2
    have w2 : IntKind.u64.wrap e.i = (e.i.toNat : Int) := by rw [wrap_u64_in _ (by omega) (by omega)]; omega
    have w3 : IntKind.u64.wrap e.t = (e.t.toNat : Int) := by rw [wrap_u64_in _ (by omega) (by omega)]; omega
    have w4 : IntKind.u64.wrap e.f = (e.f.toNat : Int) := by rw [wrap_u64_in _ (by omega) (by omega)]; omega
    have w5 : IntKind.u64.wrap e.o = (e.o.toNat : Int) := by rw [wrap_u64_in _ (by omega) (by omega)]; omega
    have w6 : IntKind.u64.wrap e.u = (e.u.toNat : Int) := by rw [wrap_u64_in _ (by omega) (by omega)]; omega
    obtain ⟨z, τ, lp, hf⟩ := num 5 (by rw [ns]; rfl)
    obtain ⟨y, t, lx, apx, hf2⟩ := fin z τ hf
    have nw7 : aNew s6 (nSlice 5 (aFill [.int .u64 0, .int .u64 0, .int .u64 0, .int .u64 0, .int .u64 0] [(0, 1, I .u64 (e.i.toNat : Int)), (1, 1, I .u64 (e.t.toNat : Int)), (2, 1, I .u64 (e.f.toNat : Int)), (3, 1, I .u64 (e.o.toNat : Int)), (4, 1, I .u64 (e.u.toNat : Int))])) =
        some (Z (.sl s6.size 0 5 (.known 5)), s6.push (.cells true (u64S (nums e)))) := by rw [ns]; rfl
    refine ⟨y, t, ?_, hf2⟩
    generalize s6.push (.cells true (u64S (nums e))) = s7 at *
    generalize R (d + 8) = r at *
    generalize (e.i.toNat : Int) = A2 at *
    generalize (e.t.toNat : Int) = A3 at *
    generalize (e.f.toNat : Int) = A4 at *
    generalize (e.o.toNat : Int) = A5 at *
    generalize (e.u.toNat : Int) = A6 at *
    generalize (e.v.toNat : Int) = A1 at *
    generalize (kb.toNat : Int) = KB at *
    have w1' : IntKind.u8.wrap 1 = KB := by rw [← c1]; exact wk
    have lq : loops (f31_l1 r 8192) 8192 [Z (.ptr s.size 0), Z y6, Z (.sl s6.size 0 5 (.known 5)), I .i64 5, I .i64 0] s7 = some (.exit 1 [Z (.ptr s.size 0), Z z], τ) := lp
    simp [nw1, l8, e2, lk, c1, w1', nw4, lv, wv, e5, ap6, hov, lk5, l0, l2, l3, l4, l5, l6, w2, w3, w4, w5, w6, nw7, lq, lx, apx, retT, allV]
  · by_cases c2 : e.k = 2
    · have ns : nums e = [e.i.toNat] := by unfold nums; rw [if_neg c1, if_pos c2]
      obtain ⟨i1, i2, _⟩ := hk2 c2
      have w2 : IntKind.u64.wrap e.i = (e.i.toNat : Int) := by rw [wrap_u64_in _ (by omega) (by omega)]; omega
      obtain ⟨z, τ, lp, hf⟩ := num 1 (by rw [ns]; rfl)
      obtain ⟨y, t, lx, apx, hf2⟩ := fin z τ hf
      have nw7 : aNew s6 (nSlice 1 (aFill [.int .u64 0] [(0, 1, I .u64 (e.i.toNat : Int))])) = some (Z (.sl s6.size 0 1 (.known 1)), s6.push (.cells true (u64S (nums e)))) := by rw [ns]; rfl
      refine ⟨y, t, ?_, hf2⟩
      generalize s6.push (.cells true (u64S (nums e))) = s7 at *
      generalize R (d + 8) = r at *
      generalize (e.i.toNat : Int) = A2 at *
      generalize (e.v.toNat : Int) = A1 at *
      generalize (kb.toNat : Int) = KB at *
      have w1' : IntKind.u8.wrap 2 = KB := by rw [← c2]; exact wk
      have lq : loops (f31_l1 r 8192) 8192 [Z (.ptr s.size 0), Z y6, Z (.sl s6.size 0 1 (.known 1)), I .i64 1, I .i64 0] s7 = some (.exit 1 [Z (.ptr s.size 0), Z z], τ) := lp
      simp [nw1, l8, e2, lk, c2, w1', nw4, lv, wv, e5, ap6, hov, lk5, l0, l2, w2, nw7, lq, lx, apx, retT, allV]
    · by_cases c4 : e.k = 4
      · have ns : nums e = [e.x.length] := by unfold nums; rw [if_neg c1, if_neg c2, if_pos c4]
        have hx := mayE_x h
        have w2 : IntKind.u64.wrap (e.x.length : Int) = (e.x.length : Int) := wrap64 _ (by omega)
        obtain ⟨z, τ, lp, hf⟩ := num 1 (by rw [ns]; rfl)
        obtain ⟨y, t, lx, apx, hf2⟩ := fin z τ hf
        have nw7 : aNew s6 (nSlice 1 (aFill [.int .u64 0] [(0, 1, I .u64 (e.x.length : Int))])) = some (Z (.sl s6.size 0 1 (.known 1)), s6.push (.cells true (u64S (nums e)))) := by rw [ns]; rfl
        refine ⟨y, t, ?_, hf2⟩
        generalize s6.push (.cells true (u64S (nums e))) = s7 at *
        generalize R (d + 8) = r at *
        generalize (e.v.toNat : Int) = A1 at *
        generalize (kb.toNat : Int) = KB at *
        have w1' : IntKind.u8.wrap 4 = KB := by rw [← c4]; exact wk
        have lq : loops (f31_l1 r 8192) 8192 [Z (.ptr s.size 0), Z y6, Z (.sl s6.size 0 1 (.known 1)), I .i64 1, I .i64 0] s7 = some (.exit 1 [Z (.ptr s.size 0), Z z], τ) := lp
        simp [nw1, l8, e2, lk, c4, w1', nw4, lv, wv, e5, ap6, hov, lk5, l0, l7, w2, nw7, lq, lx, apx, retT, allV]
      · have c3 : e.k = 3 := by omega
        have ns : nums e = [] := by unfold nums; rw [if_neg c1, if_neg c2, if_neg c4]
        obtain ⟨z, τ, lp, hf⟩ := nums_loop (x := .nils) (ns := []) (d + 7) (v0 := Z (.ptr s.size 0)) f6 (Rd.nil 1 _) (fun c hc => by cases hc) (fun n hn => by cases hn) (by simp) hacc
        rw [← ns] at hf
        obtain ⟨y, t, lx, apx, hf2⟩ := fin z τ hf
        refine ⟨y, t, ?_, hf2⟩
        simp only [Nat.add_assoc, Nat.reduceAdd] at lp
        generalize R (d + 8) = r at *
        generalize (e.v.toNat : Int) = A1 at *
        generalize (kb.toNat : Int) = KB at *
        have w1' : IntKind.u8.wrap 3 = KB := by rw [← c3]; exact wk
        have lq : loops (f31_l1 r 8192) 8192 [Z (.ptr s.size 0), Z y6, Z .nils, I .i64 0, I .i64 0] s6 = some (.exit 1 [Z (.ptr s.size 0), Z z], τ) := lp
        simp [nw1, l8, e2, lk, c3, w1', nw4, lv, wv, e5, ap6, hov, lk5, l0, lq, lx, apx, retT, allV]
end
end Go.Proofs.YtlhbidbdmdcdeaaGreatDoor

/-
  slices.Delete of one element at a slice of unknown capacity. No conditions.
-/
namespace Go.Proofs.YtlhbidbdmdcdeaaGreatDoor
open Go Go.Abs Go.Abs.F
set_option linter.unusedVariables false
abbrev zI : List S := [.int .i64 0, .int .i64 0, .int .i64 0, .int .i64 0, .int .u32 0]

theorem aBounds_lhm {len cap lo hi m : Nat} (h : lo ≤ hi) (k : hi ≤ m) (l : m ≤ cap) : aBounds len cap (some (I .i64 lo)) (some (I .i64 hi)) (some (I .i64 m)) = some (lo, hi, m) := by
  have e : ∀ {a b : Nat}, a ≤ b → aBnd (I .i64 a) b = some a := fun {a b} h => by
    have h1 : (a : Int) ≤ (b : Int) := by omega
    simp [aBnd, h]
  delta aBounds
  dsimp only
  rw [e l]
  dsimp only
  rw [e k]
  dsimp only
  rw [e h]

theorem del_sound : CallSound Tryz.prog (delP 75 5 zI) := by
  refine grown_sound (plain_sound Tryz.prog 8 1) ?_
  intro f ts σ r h
  unfold delP at h
  split at h
  · cases h
  · rename_i hf
    have hf' := Nat.eq_of_beq_eq_true hf
    subst hf'
    split at h
    · rename_i i o n q a b
      split at h
      · rename_i vs hb
        split at h
        · rename_i hd
          have hd' := of_decide_eq_true hd
          obtain ⟨rfl, ha, rfl, hbn, hn, hv⟩ := hd'
          cases h
          obtain ⟨k, rfl⟩ : ∃ k : Nat, a = k := ⟨a.toNat, by omega⟩
          refine ⟨i, o, n, 5, n - 1, _, _, _, rfl, hb, rfl, fun c hc => ?_⟩
          have hkn : k + 1 ≤ n := by omega
          rw [Int.toNat_natCast]
          rw [(runQ_body rfl Tryz.func75 (by kernel_rfl)).trans (f75_eq _ _ _ _ _ _)]
          unfold f75
          have ek : ((k : Nat) : Int) + 1 = ((k + 1 : Nat) : Int) := by omega
          rw [ek]
          have p1 : aPieceSl 5 (Z (.sl i o n (.known c))) (some (I .i64 ((k : Nat) : Int))) (some (I .i64 ((k + 1 : Nat) : Int))) (some (I .i64 ((n : Nat) : Int))) = some (Z (.sl i (if n = k then o else o + k * 5) (k + 1 - k) (.known (n - k)))) := by
            simp only [aPieceSl, aBounds_lhm (show k ≤ k + 1 by omega) hkn hc]
          have p2 : aPieceSl 5 (Z (.sl i o n (.known c))) none (some (I .i64 ((k : Nat) : Int))) none = some (Z (.sl i o k (.known c))) := by
            simp only [aPieceSl, aBounds_hi (show k ≤ c by omega), Nat.zero_mul, Nat.add_zero, ite_self, Nat.sub_zero]
          have p3 : aPieceSl 5 (Z (.sl i o n (.known c))) (some (I .i64 ((k + 1 : Nat) : Int))) none none = some (Z (.sl i (if c = k + 1 then o else o + (k + 1) * 5) (n - (k + 1)) (.known (c - (k + 1))))) := by
            simp only [aPieceSl, aBounds_lo hkn hc]
          have src : aSrc 5 (Z (.sl i (if c = k + 1 then o else o + (k + 1) * 5) (n - (k + 1)) (.known (c - (k + 1))))) σ.get = some (n - (k + 1), (vs.drop (o + (k + 1) * 5)).take ((n - 1 - k) * 5)) := by
            by_cases hz : n - (k + 1) = 0
            · have : n - 1 - k = 0 := by omega
              simp [aSrc, hz, this]
            · have h1 : ¬ c = k + 1 := by omega
              have h2 : o + (k + 1) * 5 + (n - (k + 1)) * 5 ≤ vs.length := by omega
              have h3 : n - 1 - k = n - (k + 1) := by omega
              simp only [aSrc, if_neg hz, if_neg h1, hb, if_pos h2, h3]
          obtain ⟨v1, hv1⟩ : ∃ v1, v1 = setRange vs (o + k * 5) ((vs.drop (o + (k + 1) * 5)).take ((n - 1 - k) * 5)) := ⟨_, rfl⟩
          have hl1 : v1.length = vs.length := by rw [hv1, setRange_length]
          have ap : aAppend 5 40 (Z (.sl i o k (.known c))) (Z (.sl i (if c = k + 1 then o else o + (k + 1) * 5) (n - (k + 1)) (.known (c - (k + 1))))) σ = some (Z (.sl i o (n - 1) (.known c)), σ.set i (.cells true v1)) := by
            have h1 : (n - 1) * 40 ≤ 140737488355328 := by omega
            have h2 : n - 1 ≤ c := by omega
            have h3 : True ∧ o + k * 5 + (n - (k + 1)) * 5 ≤ vs.length := ⟨trivial, by omega⟩
            have h4 : k + (n - (k + 1)) = n - 1 := by omega
            simp only [aAppend, src, if_neg (show ¬ (5 : Nat) = 0 by decide), hb, h4]
            rw [if_pos h1, if_pos h2, if_pos h3, hv1]
          have p4 : aPieceSl 5 (Z (.sl i o (n - 1) (.known c))) (some (I .i64 ((n - 1 : Nat) : Int))) (some (I .i64 ((n : Nat) : Int))) none = some (Z (.sl i (o + (n - 1) * 5) (n - (n - 1)) (.known (c - (n - 1))))) := by
            have h1 : ¬ c = n - 1 := by omega
            simp only [aPieceSl, aBounds_lh (show n - 1 ≤ n by omega) hc, if_neg h1]
          have cl : aClear 5 zI (Z (.sl i (o + (n - 1) * 5) (n - (n - 1)) (.known (c - (n - 1))))) (σ.set i (.cells true v1)) = some (tt, (σ.set i (.cells true v1)).set i (.cells true (setRange v1 (o + (n - 1) * 5) zI))) := by
            have h1 : n - (n - 1) = 1 := by omega
            have h2 : o + (n - 1) * 5 + 1 * 5 ≤ v1.length := by omega
            simp only [aClear, h1, if_neg (show ¬ (1 : Nat) = 0 by decide), St.get_set_same, if_pos h2]
            rfl
          have le1 : aLenSl (Z (.sl i o n (.known c))) = some (I .i64 ((n : Nat) : Int)) := rfl
          have le2 : aLenSl (Z (.sl i o (n - 1) (.known c))) = some (I .i64 ((n - 1 : Nat) : Int)) := rfl
          simp only [zI] at cl ⊢
          clear hc hn hbn hv hkn ha
          have nk : ¬ (((k : Nat) : Int) = ((k + 1 : Nat) : Int)) := by omega
          rw [← hv1]
          generalize ((n - 1 : Nat) : Int) = N1 at *
          generalize ((n : Nat) : Int) = NN at *
          generalize ((k + 1 : Nat) : Int) = K1 at *
          generalize ((k : Nat) : Int) = K at *
          simp only [le1, le2, bd_some, p1, eql_int, decide_eq_false nk, br_false, p2, p3, ap, bd2_some, p4, cl]
        · cases h
      · cases h
    · cases h
end Go.Proofs.YtlhbidbdmdcdeaaGreatDoor

/-
  slices.Insert of one element ahead of another at a slice of unknown capacity. No conditions.
-/
namespace Go.Proofs.YtlhbidbdmdcdeaaGreatDoor
open Go Go.Abs Go.Abs.F
set_option linter.unusedVariables false

theorem over_ok : overT Tryz.prog 89 = true := by kernel_rfl

theorem ins_grow (a w b z : List S) (hz : z.length = w.length + b.length) : setRange (setRange (a ++ z) a.length w) (a.length + w.length) b = a ++ w ++ b := by
  rw [setRange_eq (a ++ z) a.length w (by simp; omega), List.take_left, setRange_eq _ _ b (by simp; omega)]
  rw [List.take_left' (by simp), List.drop_eq_nil_of_le (by simp; omega), List.append_nil]

theorem ins_room (a w b r : List S) (hr : w.length ≤ r.length) : (setRange (setRange (a ++ b ++ r) (a.length + w.length) b) a.length w).take (a.length + w.length + b.length) = a ++ w ++ b := by
  have hX : ∃ q, setRange (a ++ b ++ r) (a.length + w.length) b = a ++ (q ++ b ++ r.drop w.length) ∧ q.length = w.length := by
    refine ⟨(b ++ r).take w.length, ?_, by simp; omega⟩
    rw [setRange_eq _ _ b (by simp; omega), List.append_assoc a b r, List.take_append, List.drop_append]
    have e1 : a.take (a.length + w.length) = a := List.take_of_length_le (by omega)
    have e2 : a.drop (a.length + w.length + b.length) = [] := List.drop_eq_nil_of_le (by omega)
    have e3 : a.length + w.length + b.length - a.length = b.length + w.length := by omega
    rw [e1, e2, e3, Nat.add_sub_cancel_left, List.nil_append, List.drop_append, List.drop_eq_nil_of_le (by omega), List.nil_append, Nat.add_sub_cancel_left]
    simp only [List.append_assoc]
  obtain ⟨q, hq, hl⟩ := hX
  rw [hq, setRange_eq _ _ w (by simp; omega), List.take_left, List.drop_append, List.drop_eq_nil_of_le (by omega), List.nil_append, Nat.add_sub_cancel_left, List.append_assoc q, List.drop_left' hl, ← List.append_assoc (a ++ w), List.take_left' (by simp; omega)]

section
variable {σ : St} {i j p n k c : Nat} {vs us : List S}

theorem ins_facts (hkn : k < n) (hn : n ≤ 1000000) :
    aBin .eql (I .i64 1) (I .i64 0) = some (B false) ∧ aBin .eql (I .i64 ((k : Nat) : Int)) (I .i64 ((n : Nat) : Int)) = some (B false) ∧ aBin .add (I .i64 ((n : Nat) : Int)) (I .i64 1) = some (I .i64 ((n + 1 : Nat) : Int)) ∧
      aBin .add (I .i64 ((k : Nat) : Int)) (I .i64 1) = some (I .i64 ((k + 1 : Nat) : Int)) ∧ aBin .sub (I .i64 ((n + 1 : Nat) : Int)) (I .i64 ((k : Nat) : Int)) = some (I .i64 ((n + 1 - k : Nat) : Int)) := by
  have h1 : ¬ (((k : Nat) : Int) = ((n : Nat) : Int)) := by omega
  have h2 : IntKind.i64.wrap ((n : Int) + 1) = ((n + 1 : Nat) : Int) := by rw [wrap_in _ (by omega) (by omega)]; omega
  have h3 : IntKind.i64.wrap ((k : Int) + 1) = ((k + 1 : Nat) : Int) := by rw [wrap_in _ (by omega) (by omega)]; omega
  have h4 : IntKind.i64.wrap (((n + 1 : Nat) : Int) - (k : Int)) = ((n + 1 - k : Nat) : Int) := by rw [wrap_in _ (by omega) (by omega)]; omega
  refine ⟨rfl, ?_, ?_, ?_, ?_⟩
  · rw [eql_int, decide_eq_false h1]
  · rw [add_int, h2]
  · rw [add_int, h3]
  · rw [sub_int, h4]

theorem insN_run (d : Nat) (wf : σ.wf) (hi : σ.get i = some (.cells true vs)) (hj : σ.get j = some (.cells true us)) (hkn : k < n) (hn : n ≤ 1000000) (hv : n * 5 ≤ vs.length) (hij : i ≠ j) (hp : p + 5 ≤ us.length) :
    ∃ τ, f74 (runQ Tryz.prog 8 noPrim d) 8 (Z (.sl i 0 n (.known n))) (I .i64 k) (Z (.sl j p 1 (.known 1))) σ = some (Z (.sl σ.size 0 (n + 1) (.grown 5)), τ) ∧ τ.size = σ.size + 1 ∧
      τ.get σ.size = some (.cells true (vs.take (k * 5) ++ (us.drop p).take 5 ++ (vs.drop (k * 5)).take ((n - k) * 5))) ∧ ∀ b, b < σ.size → τ.get b = σ.get b := by
  obtain ⟨f1, f2, f3, f4, f5⟩ := ins_facts hkn hn
  obtain ⟨N, hN⟩ : ∃ N, N = σ.size := ⟨_, rfl⟩
  obtain ⟨a, ha⟩ : ∃ a, a = vs.take (k * 5) := ⟨_, rfl⟩
  obtain ⟨w, hw⟩ : ∃ w, w = (us.drop p).take 5 := ⟨_, rfl⟩
  obtain ⟨b, hb⟩ : ∃ b, b = (vs.drop (k * 5)).take ((n - k) * 5) := ⟨_, rfl⟩
  have hla : a.length = k * 5 := by rw [ha, List.length_take]; omega
  have hlw : w.length = 5 := by rw [hw]; simp; omega
  have hlb : b.length = (n - k) * 5 := by rw [hb]; simp; omega
  obtain ⟨z, hz⟩ : ∃ z, z = zeros (n + 1 - k) zI := ⟨_, rfl⟩
  have hlz : z.length = (n + 1 - k) * 5 := by rw [hz]; exact zeros_len (e := 5) rfl _
  have le0 : aLenSl (Z (.sl i 0 n (.known n))) = some (I .i64 ((n : Nat) : Int)) := rfl
  have le2 : aLenSl (Z (.sl j p 1 (.known 1))) = some (I .i64 1) := rfl
  have cp : aCap (Z (.sl i 0 n (.known n))) = some (I .i64 ((n : Nat) : Int)) := rfl
  have gt : aBin .gtr (I .i64 ((n + 1 : Nat) : Int)) (I .i64 ((n : Nat) : Int)) = some (B true) := by
    rw [gtr_int, decide_eq_true (by omega)]
  have p1 : aPieceSl 5 (Z (.sl i 0 n (.known n))) (some (I .i64 ((k : Nat) : Int))) none none = some (Z (.sl i (k * 5) (n - k) (.known (n - k)))) := by
    have h1 : ¬ n = k := by omega
    simp only [aPieceSl, aBounds_lo (show k ≤ n by omega) (Nat.le_refl n), if_neg h1, Nat.zero_add]
  have p2 : aPieceSl 5 (Z (.sl i 0 n (.known n))) none (some (I .i64 ((k : Nat) : Int))) none = some (Z (.sl i 0 k (.known n))) := by
    simp only [aPieceSl, aBounds_hi (show k ≤ n by omega), Nat.zero_mul, Nat.add_zero, ite_self, Nat.sub_zero]
  obtain ⟨s1, hs1⟩ : ∃ s1, s1 = σ.push (.cells true (a ++ z)) := ⟨_, rfl⟩
  have gr : aGrow 5 40 [.int .i64 0, .int .i64 0, .int .i64 0, .int .i64 0, .int .u32 0] (Z (.sl i 0 k (.known n))) (I .i64 ((n + 1 - k : Nat) : Int)) σ = some (Z (.sl N 0 (n + 1) (.grown 5)), s1) := by
    have h1 : 0 < ((n + 1 - k : Nat) : Int) ∧ k ≤ n ∧ n < k + ((n + 1 - k : Nat) : Int).toNat ∧ (k + ((n + 1 - k : Nat) : Int).toNat) * 40 ≤ 140737488355328 ∧ (5 : Nat) ≠ 0 ∧ 0 + k * 5 ≤ vs.length := by
      rw [Int.toNat_natCast]
      refine ⟨by omega, by omega, by omega, by omega, by decide, by omega⟩
    have h2 : k + ((n + 1 - k : Nat) : Int).toNat = n + 1 := by omega
    simp only [aGrow, hi]
    rw [if_pos h1, h2, Int.toNat_natCast, List.drop_zero, ← ha, hs1, hz, hN]
  have g1 : s1.get N = some (.cells true (a ++ z)) := by rw [hs1, hN]; exact St.get_push_same _ _
  have o1 : ∀ q, q ≠ N → s1.get q = σ.get q := fun q hq => by rw [hs1]; exact St.get_push_ne _ _ (by rw [← hN]; exact hq)
  have p3 : aPieceSl 5 (Z (.sl N 0 (n + 1) (.grown 5))) (some (I .i64 ((k : Nat) : Int))) none none = some (Z (.sl N (k * 5) (n + 1 - k) (.grown 5))) := by
    simp only [aPieceSl, aBounds_lo (show k ≤ n + 1 by omega) (Nat.le_refl (n + 1)), if_pos trivial, if_pos (show k < n + 1 by omega), Nat.zero_add]
  have p4 : aPieceSl 5 (Z (.sl N 0 (n + 1) (.grown 5))) (some (I .i64 ((k + 1 : Nat) : Int))) none none = some (Z (.sl N ((k + 1) * 5) (n - k) (.grown 5))) := by
    have h1 : n + 1 - (k + 1) = n - k := by omega
    simp only [aPieceSl, aBounds_lo (show k + 1 ≤ n + 1 by omega) (Nat.le_refl (n + 1)), if_pos trivial, if_pos (show k + 1 < n + 1 by omega), Nat.zero_add, h1]
  have jN : j ≠ N := by have := wf.lt hj; omega
  have iN : i ≠ N := by have := wf.lt hi; omega
  have hj1 : s1.get j = some (.cells true us) := by rw [o1 j jN]; exact hj
  have src1 : aSrc 5 (Z (.sl j p 1 (.known 1))) s1.get = some (1, w) := by
    simp only [aSrc, if_neg (show ¬ (1 : Nat) = 0 by decide), hj1, Nat.one_mul, if_pos hp, hw]
  have hm1 : Nat.min 1 (n + 1 - k) = 1 := by show min 1 (n + 1 - k) = 1; omega
  obtain ⟨A1, hA1⟩ : ∃ A1, A1 = setRange (a ++ z) (k * 5) w := ⟨_, rfl⟩
  obtain ⟨s2, hs2⟩ : ∃ s2, s2 = s1.set N (.cells true A1) := ⟨_, rfl⟩
  have cy1 : aCopy 5 (Z (.sl N (k * 5) (n + 1 - k) (.grown 5))) (Z (.sl j p 1 (.known 1))) s1 = some (I .i64 ((1 : Nat) : Int), s2) := by
    have h1 : k * 5 + 1 * 5 ≤ (a ++ z).length := by simp; omega
    have h2 : w.take (1 * 5) = w := List.take_of_length_le (by omega)
    simp only [aCopy, src1, g1, hm1]
    rw [if_pos h1, h2, hs2, hA1]
  have g2 : s2.get N = some (.cells true A1) := by rw [hs2]; exact St.get_set_same _ _ _
  have hi2 : s2.get i = some (.cells true vs) := by rw [hs2, St.get_set_ne _ _ iN, o1 i iN]; exact hi
  have hnk : ¬ n - k = 0 := by omega
  have src2 : aSrc 5 (Z (.sl i (k * 5) (n - k) (.known (n - k)))) s2.get = some (n - k, b) := by
    have h1 : k * 5 + (n - k) * 5 ≤ vs.length := by omega
    simp only [aSrc, if_neg hnk, hi2, if_pos h1, hb]
  have hm2 : Nat.min (n - k) (n - k) = n - k := by show min (n - k) (n - k) = n - k; omega
  obtain ⟨A2, hA2⟩ : ∃ A2, A2 = setRange A1 ((k + 1) * 5) b := ⟨_, rfl⟩
  obtain ⟨s3, hs3⟩ : ∃ s3, s3 = s2.set N (.cells true A2) := ⟨_, rfl⟩
  have cy2 : aCopy 5 (Z (.sl N ((k + 1) * 5) (n - k) (.grown 5))) (Z (.sl i (k * 5) (n - k) (.known (n - k)))) s2 = some (I .i64 ((n - k : Nat) : Int), s3) := by
    have h1 : (k + 1) * 5 + (n - k) * 5 ≤ A1.length := by rw [hA1, setRange_length]; simp; omega
    have h2 : b.take ((n - k) * 5) = b := List.take_of_length_le (by omega)
    simp only [aCopy, src2, g2, hm2]
    rw [if_pos h1, h2, hs3, hA2]
  have hfin : A2 = a ++ w ++ b := by
    have := ins_grow a w b z (by omega)
    rw [hla, hlw] at this
    rw [hA2, hA1, Nat.add_mul, Nat.one_mul]
    exact this
  refine ⟨s3, ?_, by rw [hs3, hs2, hs1]; rfl, by rw [← hN, hs3, St.get_set_same, hfin, ha, hw, hb], fun q hq => ?_⟩
  · unfold f74
    rw [← hN]
    clear hi hj hi2 hj1 hv hp wf
    have br1 : ((1 : Nat) : Int) = 1 := rfl
    rw [br1] at cy1
    generalize n + 1 - k = M at *
    generalize ((n + 1 : Nat) : Int) = N1 at *
    generalize ((k + 1 : Nat) : Int) = K1 at *
    generalize ((M : Nat) : Int) = MI at *
    generalize ((n : Nat) : Int) = NI at *
    generalize ((k : Nat) : Int) = KI at *
    simp only [p1, le0, le2, bd_some, f1, br_false, f2, f3, cp, gt, br_true, p2, f5, gr, bd2_some, p3, cy1, f4, p4, cy2]
  · rw [hs3, hs2, St.get_set_ne _ _ (by omega), St.get_set_ne _ _ (by omega), o1 q (by omega)]

theorem insR_run (d : Nat) (hi : σ.get i = some (.cells true vs)) (hj : σ.get j = some (.cells true us)) (hkn : k < n) (hn : n ≤ 1000000) (hc : n + 1 ≤ c) (hv : vs.length = c * 5) (hij : i ≠ j) (hp : p + 5 ≤ us.length) :
    ∃ τ B, f74 (runQ Tryz.prog 8 noPrim d) 8 (Z (.sl i 0 n (.known c))) (I .i64 k) (Z (.sl j p 1 (.known 1))) σ = some (Z (.sl i 0 (n + 1) (.known c)), τ) ∧ τ.size = σ.size ∧
      τ.get i = some (.cells true B) ∧ B.length = vs.length ∧ B.take ((n + 1) * 5) = vs.take (k * 5) ++ (us.drop p).take 5 ++ (vs.drop (k * 5)).take ((n - k) * 5) ∧ ∀ b, b ≠ i → τ.get b = σ.get b := by
  obtain ⟨f1, f2, f3, f4, f5⟩ := ins_facts hkn hn
  obtain ⟨a, ha⟩ : ∃ a, a = vs.take (k * 5) := ⟨_, rfl⟩
  obtain ⟨w, hw⟩ : ∃ w, w = (us.drop p).take 5 := ⟨_, rfl⟩
  obtain ⟨b, hb⟩ : ∃ b, b = (vs.drop (k * 5)).take ((n - k) * 5) := ⟨_, rfl⟩
  obtain ⟨r, hr⟩ : ∃ r, r = vs.drop (n * 5) := ⟨_, rfl⟩
  have hla : a.length = k * 5 := by rw [ha, List.length_take]; omega
  have hlw : w.length = 5 := by rw [hw]; simp; omega
  have hlb : b.length = (n - k) * 5 := by rw [hb]; simp; omega
  have hlr : 5 ≤ r.length := by rw [hr]; simp; omega
  have hvs : vs = a ++ b ++ r := by
    have h1 : vs.drop (k * 5) = b ++ r := by
      rw [hb, hr]
      have : n * 5 = k * 5 + (n - k) * 5 := by omega
      rw [this, ← List.drop_drop]
      exact (List.take_append_drop _ _).symm
    rw [List.append_assoc, ← h1, ha]
    exact (List.take_append_drop _ _).symm
  have le0 : aLenSl (Z (.sl i 0 n (.known c))) = some (I .i64 ((n : Nat) : Int)) := rfl
  have le2 : aLenSl (Z (.sl j p 1 (.known 1))) = some (I .i64 1) := rfl
  have cp : aCap (Z (.sl i 0 n (.known c))) = some (I .i64 ((c : Nat) : Int)) := rfl
  have gt : aBin .gtr (I .i64 ((n + 1 : Nat) : Int)) (I .i64 ((c : Nat) : Int)) = some (B false) := by
    rw [gtr_int, decide_eq_false (by omega)]
  have p0 : aPieceSl 5 (Z (.sl i 0 n (.known c))) (some (I .i64 ((k : Nat) : Int))) none none = some (Z (.sl i (k * 5) (n - k) (.known (c - k)))) := by
    have h1 : ¬ c = k := by omega
    simp only [aPieceSl, aBounds_lo (show k ≤ n by omega) (show n ≤ c by omega), if_neg h1, Nat.zero_add]
  have p1 : aPieceSl 5 (Z (.sl i 0 n (.known c))) none (some (I .i64 ((n + 1 : Nat) : Int))) none = some (Z (.sl i 0 (n + 1) (.known c))) := by
    simp only [aPieceSl, aBounds_hi hc, Nat.zero_mul, Nat.add_zero, ite_self, Nat.sub_zero]
  have p2 : aPieceSl 5 (Z (.sl i 0 (n + 1) (.known c))) (some (I .i64 ((k + 1 : Nat) : Int))) none none = some (Z (.sl i ((k + 1) * 5) (n - k) (.known (c - (k + 1))))) := by
    have h1 : ¬ c = k + 1 := by omega
    have h2 : n + 1 - (k + 1) = n - k := by omega
    simp only [aPieceSl, aBounds_lo (show k + 1 ≤ n + 1 by omega) hc, if_neg h1, Nat.zero_add, h2]
  have p3 : aPieceSl 5 (Z (.sl i 0 (n + 1) (.known c))) (some (I .i64 ((k : Nat) : Int))) none none = some (Z (.sl i (k * 5) (n + 1 - k) (.known (c - k)))) := by
    have h1 : ¬ c = k := by omega
    simp only [aPieceSl, aBounds_lo (show k ≤ n + 1 by omega) hc, if_neg h1, Nat.zero_add]
  have ov : xOver Tryz.prog 89 [Z (.sl j p 1 (.known 1)), Z (.sl i ((k + 1) * 5) (n - k) (.known (c - (k + 1))))] σ = some (B false, σ) := by
    have h1 : Nat.beq j i = false := by
      cases h : Nat.beq j i with
      | false => rfl
      | true => exact absurd (Nat.eq_of_beq_eq_true h).symm hij
    simp only [xOver, aOver, hi, hj, h1, over_ok]
  have no : aUn .not (B false) = some (B true) := rfl
  have src1 : aSrc 5 (Z (.sl i (k * 5) (n + 1 - k) (.known (c - k)))) σ.get = some (n + 1 - k, (vs.drop (k * 5)).take ((n + 1 - k) * 5)) := by
    have h1 : k * 5 + (n + 1 - k) * 5 ≤ vs.length := by omega
    simp only [aSrc, if_neg (show ¬ n + 1 - k = 0 by omega), hi, if_pos h1]
  have hm1 : Nat.min (n + 1 - k) (n - k) = n - k := by show min (n + 1 - k) (n - k) = n - k; omega
  have hbt : ((vs.drop (k * 5)).take ((n + 1 - k) * 5)).take ((n - k) * 5) = b := by
    rw [List.take_take, hb]
    congr 1; omega
  obtain ⟨A1, hA1⟩ : ∃ A1, A1 = setRange vs ((k + 1) * 5) b := ⟨_, rfl⟩
  obtain ⟨s1, hs1⟩ : ∃ s1, s1 = σ.set i (.cells true A1) := ⟨_, rfl⟩
  have cy1 : aCopy 5 (Z (.sl i ((k + 1) * 5) (n - k) (.known (c - (k + 1))))) (Z (.sl i (k * 5) (n + 1 - k) (.known (c - k)))) σ = some (I .i64 ((n - k : Nat) : Int), s1) := by
    have h1 : (k + 1) * 5 + (n - k) * 5 ≤ vs.length := by omega
    simp only [aCopy, src1, hi, hm1]
    rw [if_pos h1, hbt, hs1, hA1]
  have g1 : s1.get i = some (.cells true A1) := by rw [hs1]; exact St.get_set_same _ _ _
  have hj1 : s1.get j = some (.cells true us) := by rw [hs1, St.get_set_ne _ _ (fun h => hij h.symm)]; exact hj
  have src2 : aSrc 5 (Z (.sl j p 1 (.known 1))) s1.get = some (1, w) := by
    simp only [aSrc, if_neg (show ¬ (1 : Nat) = 0 by decide), hj1, Nat.one_mul, if_pos hp, hw]
  have hm2 : Nat.min 1 (n + 1 - k) = 1 := by show min 1 (n + 1 - k) = 1; omega
  obtain ⟨A2, hA2⟩ : ∃ A2, A2 = setRange A1 (k * 5) w := ⟨_, rfl⟩
  obtain ⟨s2, hs2⟩ : ∃ s2, s2 = s1.set i (.cells true A2) := ⟨_, rfl⟩
  have hl1 : A1.length = vs.length := by rw [hA1, setRange_length]
  have cy2 : aCopy 5 (Z (.sl i (k * 5) (n + 1 - k) (.known (c - k)))) (Z (.sl j p 1 (.known 1))) s1 = some (I .i64 ((1 : Nat) : Int), s2) := by
    have h1 : k * 5 + 1 * 5 ≤ A1.length := by omega
    have h2 : w.take (1 * 5) = w := List.take_of_length_le (by omega)
    simp only [aCopy, src2, g1, hm2]
    rw [if_pos h1, h2, hs2, hA2]
  have hfin : A2.take ((n + 1) * 5) = a ++ w ++ b := by
    have := ins_room a w b r (by omega)
    rw [← hvs, hla, hlw, hlb] at this
    have e1 : k * 5 + 5 = (k + 1) * 5 := by omega
    have e2 : (k + 1) * 5 + (n - k) * 5 = (n + 1) * 5 := by omega
    rw [e1, e2] at this
    rw [hA2, hA1]
    exact this
  refine ⟨s2, A2, ?_, by rw [hs2, hs1]; simp, by rw [hs2]; exact St.get_set_same _ _ _, by rw [hA2, setRange_length, hl1], by rw [hfin, ha, hw, hb], fun q hq => by rw [hs2, hs1, St.get_set_ne _ _ hq, St.get_set_ne _ _ hq]⟩
  unfold f74
  clear hi hj hj1 hv hp
  have br1 : ((1 : Nat) : Int) = 1 := rfl
  rw [br1] at cy2
  generalize ((n - k : Nat) : Int) = NK at *
  generalize ((n + 1 : Nat) : Int) = N1 at *
  generalize ((k + 1 : Nat) : Int) = K1 at *
  generalize ((c : Nat) : Int) = CI at *
  generalize ((n : Nat) : Int) = NI at *
  generalize ((k : Nat) : Int) = KI at *
  simp only [p0, le0, le2, bd_some, f1, br_false, f2, f3, cp, gt, p1, f4, p2, ov, bd2_some, no, br_true, p3, cy1, cy2]
end

theorem ins_sound : CallSound Tryz.prog (insP 74 5) := by
  have body : ∀ (a0 a1 a2 : T) (σ : St), runQ Tryz.prog 8 noPrim 1 74 [a0, a1, a2] σ = f74 (runQ Tryz.prog 8 noPrim 0) 8 a0 a1 a2 σ := fun a0 a1 a2 σ =>
    (runQ_body rfl Tryz.func74 (by kernel_rfl)).trans (f74_eq _ _ _ _ _ _)
  refine Go.Abs.F.ins_sound (plain_sound Tryz.prog 8 1) ?_ ?_
  · intro σ i n k j p vs us wf h1 h2 h3 h4 h5 h6 h7
    obtain ⟨τ, e1, e2⟩ := insN_run 0 wf h1 h2 h3 h4 h5 h6 h7
    exact ⟨τ, (body _ _ _ _).trans e1, e2⟩
  · intro σ i n k j p c vs us h1 h2 h3 h4 h5 h6 h7 h8
    obtain ⟨τ, B, e1, e2⟩ := insR_run 0 h1 h2 h3 h4 h5 h6 h7 h8
    exact ⟨τ, B, (body _ _ _ _).trans e1, e2⟩
end Go.Proofs.YtlhbidbdmdcdeaaGreatDoor

/-
  Lists of segments in a store: search, insertion, removal. No conditions but those named in each line.
-/
namespace Go.Proofs.YtlhbidbdmdcdeaaGreatDoor
open Go Go.Abs Go.Abs.F
set_option linter.unusedVariables false

structure Inf where
  i : Int
  t : Int
  f : Int
  o : Int
  u : Int
  deriving DecidableEq
def cI (x : Inf) : List S := [.int .i64 x.i, .int .i64 x.t, .int .i64 x.f, .int .i64 x.o, .int .u32 x.u]
abbrev AI (x : Inf) : T := .v (.agg (cI x))
theorem cI_len (x : Inf) : (cI x).length = 5 := rfl

/-- A list of segments: nil, or a slice that begins its block. -/
def InS (s : St) (x : S) (l : List Inf) : Prop := (x = .nils ∧ l = []) ∨ ∃ c vs, x = .sl c 0 l.length (.grown 5) ∧ s.get c = some (.cells true vs) ∧ vs.take (l.length * 5) = cells cI l

section
variable {s t : St} {x : S} {l : List Inf}

theorem InS.rd (h : InS s x l) : Rd 5 s x l.length (cells cI l) := by
  rcases h with ⟨rfl, rfl⟩ | ⟨c, vs, rfl, hb, ht⟩
  · exact Rd.nil 5 s
  · have hl := cells_len (e := 5) cI_len l
    refine ⟨hl, .inr ⟨c, 0, _, true, vs, rfl, hb, ?_, by rw [List.drop_zero]; exact ht⟩, rfl⟩
    have := congrArg List.length ht
    rw [List.length_take, hl] at this
    omega

theorem InS.keep (h : InS s x l) (hk : ∀ c, own x = some c → t.get c = s.get c) : InS t x l := by
  rcases h with ⟨rfl, rfl⟩ | ⟨c, vs, rfl, hb, ht⟩
  · exact .inl ⟨rfl, rfl⟩
  · exact .inr ⟨c, vs, rfl, by rw [hk c rfl]; exact hb, ht⟩

theorem InS.lt (h : InS s x l) (wf : s.wf) {c : Nat} (hc : own x = some c) : c < s.size := by
  rcases h with ⟨rfl, rfl⟩ | ⟨d, vs, rfl, hb, ht⟩
  · cases hc
  · cases hc; exact wf.lt hb

theorem InS.atI (h : InS s x l) {j : Nat} {n : Int} {a : Inf} (hn : n = j) (ha : l[j]? = some a) : ∃ p, aIndexSl 5 (Z x) (I .i64 n) = some p ∧ aLoadN 5 p s.get = some (AI a) := by
  obtain ⟨c, p, h1, _, h3⟩ := Rd.at h.rd hn (List.getElem?_eq_some_iff.1 ha).1
  rw [cells_row cI_len ha] at h3
  exact ⟨_, h1, h3⟩

/-- How a segment's number compares. -/
def cmpI (id : Int) (a : Inf) : Int := IntKind.i64.wrap (a.i - id)

theorem cmpI_in {id : Int} {a : Inf} (h0 : 0 ≤ id) (h1 : id ≤ 1073741824) (h2 : 0 ≤ a.i) (h3 : a.i ≤ 1073741824) : cmpI id a = a.i - id := wrap_in _ (by omega) (by omega)

theorem cmp_run (d : Nat) (wf : s.wf) (a : Inf) (id : Int) : ∃ t, R (d + 1) 88 [AI a, I .i64 id] s = some (I .i64 (cmpI id a), t) ∧ Gr s t := by
  rw [f88_run]
  unfold f88
  obtain ⟨s1, hs1⟩ : ∃ s1, s1 = s.push (.cells true (cI a)) := ⟨_, rfl⟩
  have nw : aNew s (nBox (AI a)) = some (Z (.ptr s.size 0), s1) := by rw [hs1]; rfl
  have fa : aFieldAddr 0 (Z (.ptr s.size 0)) = some (Z (.ptr s.size 0)) := rfl
  have ld : aLoad1 (Z (.ptr s.size 0)) s1.get = some (I .i64 a.i) := aLoad1_of (by rw [hs1]; exact St.get_push_same _ _) rfl
  refine ⟨s1, ?_, by rw [hs1]; exact Gr.push wf _⟩
  simp only [nw, bd2_some, fa, bd_some, ld, sub_int]
  rfl

theorem dyn_clo0 {callf : CallF} {f : Nat} {args : List T} {σ : St} (h : callable Tryz.prog f = true) : dyn Tryz.prog callf (Z (.clo f [])) args σ = callf f args σ := by
  simp only [dyn, h, if_true, List.map_nil, List.append_nil]

theorem at_callable : callable Tryz.prog 88 = true := by kernel_rfl

/-- What a search tells: a place, and whether the number is there. -/
structure Found (l : List Inf) (id : Int) (k : Nat) : Prop where
  le : k ≤ l.length
  low : (∀ (a b : Nat) (x y : Inf), a < b → l[a]? = some x → l[b]? = some y → cmpI id y < 0 → cmpI id x < 0) → ∀ (a : Nat) (x : Inf), a < k → l[a]? = some x → cmpI id x < 0
  high : (∀ (a b : Nat) (x y : Inf), a < b → l[a]? = some x → l[b]? = some y → cmpI id y < 0 → cmpI id x < 0) → ∀ (a : Nat) (x : Inf), k ≤ a → l[a]? = some x → ¬ cmpI id x < 0

def hitI (l : List Inf) (id : Int) (k : Nat) : Bool := match l[k]? with
  | some a => decide (cmpI id a = 0)
  | none => false

set_option maxHeartbeats 1000000 in
theorem bsf_run (d : Nat) (wf : s.wf) (h : InS s x l) (hl : l.length ≤ 8000) (id : Int) : ∃ k t, R (d + 2) 87 [Z x, I .i64 id, Z (.clo 88 [])] s = some (.tup [.s (.int .i64 ((k : Nat) : Int)), .s (.bool (hitI l id k))], t) ∧ Gr s t ∧ Found l id k := by
  rw [f87_run]
  unfold f87
  have ll := h.rd.lens
  have dy : ∀ (u : St) (a : Inf), u.wf → ∃ t, dyn Tryz.prog (R (d + 1)) (Z (.clo 88 [])) [AI a, I .i64 id] u = some (I .i64 (cmpI id a), t) ∧ Gr u t := fun u a hu => by
    obtain ⟨t, e, g⟩ := cmp_run d hu a id
    exact ⟨t, by rw [dyn_clo0 at_callable]; exact e, g⟩
  obtain ⟨Mono, hM⟩ : ∃ Mono, Mono = ∀ (a b : Nat) (x y : Inf), a < b → l[a]? = some x → l[b]? = some y → cmpI id y < 0 → cmpI id x < 0 := ⟨_, rfl⟩
  obtain ⟨j, τ, lp, hj⟩ := loops_inv (f := f87_l1 (R (d + 1)) 8192)
    (fun q v u => ∃ lo hi : Nat, hi - lo ≤ q ∧ lo ≤ hi ∧ hi ≤ l.length ∧ v = [Z x, I .i64 id, Z (.clo 88 []), I .i64 ((l.length : Nat) : Int), I .i64 ((lo : Nat) : Int), I .i64 ((hi : Nat) : Int)] ∧ Gr s u ∧
      (Mono → (∀ (a : Nat) (y : Inf), a < lo → l[a]? = some y → cmpI id y < 0) ∧ ∀ (a : Nat) (y : Inf), hi ≤ a → l[a]? = some y → ¬ cmpI id y < 0))
    (fun j u => ∃ k : Nat, j = .exit 0 [Z x, I .i64 id, Z (.clo 88 []), I .i64 ((l.length : Nat) : Int), I .i64 ((k : Nat) : Int)] ∧ k ≤ l.length ∧ Gr s u ∧
      (Mono → (∀ (a : Nat) (y : Inf), a < k → l[a]? = some y → cmpI id y < 0) ∧ ∀ (a : Nat) (y : Inf), k ≤ a → l[a]? = some y → ¬ cmpI id y < 0)) (by
    rintro q v u ⟨lo, hi, hq, hlh, hhl, rfl, g, hinv⟩
    by_cases hlt : lo < hi
    · left
      obtain ⟨m, hm⟩ : ∃ m, m = (lo + hi) / 2 := ⟨_, rfl⟩
      have hm1 : lo ≤ m := by omega
      have hm2 : m < hi := by omega
      have hget : l[m]? = some l[m] := List.getElem?_eq_getElem (by omega)
      obtain ⟨y, hy⟩ : ∃ y, y = l[m] := ⟨_, rfl⟩
      rw [← hy] at hget
      have hu := h.keep (t := u) fun c hc => g.2.2 c (h.lt wf hc)
      obtain ⟨p, ix, ld⟩ := hu.atI (n := ((m : Nat) : Int)) rfl hget
      obtain ⟨t1, dy1, g1⟩ := dy u y g.wf
      have c0 : ((lo : Nat) : Int) < ((hi : Nat) : Int) := by omega
      have a1 : IntKind.i64.wrap ((lo : Int) + (hi : Int)) = ((lo + hi : Nat) : Int) := by rw [wrap_in _ (by omega) (by omega)]; omega
      have a2 : aConv .u64 (I .i64 ((lo + hi : Nat) : Int)) = some (I .u64 ((lo + hi : Nat) : Int)) := by
        show some (I .u64 (IntKind.u64.wrap ((lo + hi : Nat) : Int))) = _
        rw [wrap64 _ (by omega)]
      have a3 : aBin .shr (I .u64 ((lo + hi : Nat) : Int)) (I .u64 1) = some (I .u64 ((m : Nat) : Int)) := by
        have := shr_nat .u64 (lo + hi) 1 (by decide)
        rw [hm]
        exact this
      have a4 : aConv .i64 (I .u64 ((m : Nat) : Int)) = some (I .i64 ((m : Nat) : Int)) := by
        show some (I .i64 (IntKind.i64.wrap ((m : Nat) : Int))) = _
        rw [wrapi _ (by omega)]
      have w1 : IntKind.i64.wrap ((m : Int) + 1) = ((m + 1 : Nat) : Int) := by rw [wrap_in _ (by omega) (by omega)]; omega
      by_cases hc : cmpI id y < 0
      · refine ⟨[Z x, I .i64 id, Z (.clo 88 []), I .i64 ((l.length : Nat) : Int), I .i64 ((m + 1 : Nat) : Int), I .i64 ((hi : Nat) : Int)], t1, q - 1, ?_, by omega, m + 1, hi, by omega, by omega, hhl, rfl, g.trans g1, fun hmo => ⟨fun a z ha hz => ?_, (hinv hmo).2⟩⟩
        · unfold f87_l1
          generalize R (d + 1) = r at *
          generalize ((lo + hi : Nat) : Int) = LH at *
          generalize ((m + 1 : Nat) : Int) = M1 at *
          generalize ((m : Nat) : Int) = M at *
          generalize ((hi : Nat) : Int) = HI at *
          generalize ((lo : Nat) : Int) = LO at *
          generalize ((l.length : Nat) : Int) = LL at *
          simp [c0, a1, a2, a3, a4, ix, ld, dy1, hc, w1]
        · by_cases e : a = m
          · subst e; rw [hget] at hz; cases hz; exact hc
          · rw [hM] at hmo; exact hmo a m z y (by omega) hz hget hc
      · refine ⟨[Z x, I .i64 id, Z (.clo 88 []), I .i64 ((l.length : Nat) : Int), I .i64 ((lo : Nat) : Int), I .i64 ((m : Nat) : Int)], t1, q - 1, ?_, by omega, lo, m, by omega, by omega, by omega, rfl, g.trans g1, fun hmo => ⟨(hinv hmo).1, fun a z ha hz hz0 => ?_⟩⟩
        · unfold f87_l1
          generalize R (d + 1) = r at *
          generalize ((lo + hi : Nat) : Int) = LH at *
          generalize ((m + 1 : Nat) : Int) = M1 at *
          generalize ((m : Nat) : Int) = M at *
          generalize ((hi : Nat) : Int) = HI at *
          generalize ((lo : Nat) : Int) = LO at *
          generalize ((l.length : Nat) : Int) = LL at *
          simp [c0, a1, a2, a3, a4, ix, ld, dy1, hc]
        · by_cases e : a = m
          · subst e; rw [hget] at hz; cases hz; exact hc hz0
          · rw [hM] at hmo; exact hc (hmo m a y z (by omega) hget hz hz0)
    · right
      have hll : lo = hi := by omega
      subst hll
      refine ⟨_, u, ?_, (fun v hv => by cases hv), lo, rfl, hhl, g, hinv⟩
      have c0 : ¬ ((lo : Nat) : Int) < ((lo : Nat) : Int) := by omega
      unfold f87_l1
      simp [c0]) 8192 l.length [Z x, I .i64 id, Z (.clo 88 []), I .i64 ((l.length : Nat) : Int), I .i64 0, I .i64 ((l.length : Nat) : Int)] s
    ⟨0, l.length, by omega, by omega, by omega, rfl, Gr.refl wf, fun _ => ⟨fun a y ha => by omega, fun a y ha hy => by have := (List.getElem?_eq_some_iff.1 hy).1; omega⟩⟩ (by omega)
  obtain ⟨k, rfl, hk, g, hinv⟩ := hj
  rw [hM] at hinv
  have hF : Found l id k := ⟨hk, fun m => (hinv m).1, fun m => (hinv m).2⟩
  by_cases hkl : k < l.length
  · have hget : l[k]? = some l[k] := List.getElem?_eq_getElem hkl
    obtain ⟨y, hy⟩ : ∃ y, y = l[k] := ⟨_, rfl⟩
    rw [← hy] at hget
    have hu := h.keep (t := τ) fun c hc => g.2.2 c (h.lt wf hc)
    obtain ⟨p, ix, ld⟩ := hu.atI (n := ((k : Nat) : Int)) rfl hget
    obtain ⟨t1, dy1, g1⟩ := dy τ y g.wf
    have c0 : ((k : Nat) : Int) < ((l.length : Nat) : Int) := by omega
    have hh : hitI l id k = decide (cmpI id y = 0) := by simp only [hitI, hget]
    refine ⟨k, t1, ?_, g.trans g1, hF⟩
    rw [hh]
    clear hinv hF dy
    generalize R (d + 1) = r at *
    generalize ((k : Nat) : Int) = K at *
    generalize ((l.length : Nat) : Int) = LL at *
    generalize cmpI id y = CY at *
    simp [ll, lp, c0, ix, ld, dy1, retT, allV]
  · have hke : k = l.length := by omega
    have hh : hitI l id k = false := by simp only [hitI, List.getElem?_eq_none (by omega : l.length ≤ k)]
    have c0 : ¬ ((k : Nat) : Int) < ((l.length : Nat) : Int) := by omega
    refine ⟨k, τ, ?_, g, hF⟩
    rw [hh]
    clear hinv hF dy hke
    generalize R (d + 1) = r at *
    generalize ((k : Nat) : Int) = K at *
    generalize ((l.length : Nat) : Int) = LL at *
    simp [ll, lp, c0, retT, allV]

theorem prim_ins {σ : St} {ts : List T} : prim 74 ts σ = insP 74 5 74 ts σ := by
  have e1 : toldP 17 true 74 ts σ = none := by
    have : Nat.beq 74 17 = false := by decide
    simp only [toldP, this, Bool.false_and]
  have e2 : toldP 29 true 74 ts σ = none := by
    have : Nat.beq 74 29 = false := by decide
    simp only [toldP, this, Bool.false_and]
  have e3 : bigP Tryz.prog [18] 74 ts σ = none := by
    have : [18].contains 74 = false := by decide
    simp only [bigP, this]
  have e4 : delP 75 5 [.int .i64 0, .int .i64 0, .int .i64 0, .int .i64 0, .int .u32 0] 74 ts σ = none := by
    have : Nat.beq 74 75 = false := by decide
    simp only [delP, this]
  have e5 : prim1 74 ts σ = none := by
    have h1 : ixs.contains 74 = false := by decide
    have h2 : Nat.beq 74 103 = false := by decide
    have h3 : Nat.beq 74 79 = false := by decide
    have h4 : [122].contains 74 = false := by decide
    have h5 : prim0 74 ts σ = none := by
      simp only [prim0, orP, ixP, h1, h2, joinP, h3]
    exact (orP_right h5).trans (by simp only [pureP, h4, Bool.false_and])
  refine (orP_right e1).trans ((orP_right e2).trans ?_)
  cases h : insP 74 5 74 ts σ with
  | some r => exact orP_left ((orP_right e3).trans ((orP_right e4).trans h))
  | none => exact (orP_right ((orP_right e3).trans ((orP_right e4).trans h))).trans e5

theorem prim_del {σ : St} {ts : List T} {r : T × St} (h : delP 75 5 [.int .i64 0, .int .i64 0, .int .i64 0, .int .i64 0, .int .u32 0] 75 ts σ = some r) : prim 75 ts σ = some r := by
  have e1 : toldP 17 true 75 ts σ = none := by
    have : Nat.beq 75 17 = false := by decide
    simp only [toldP, this, Bool.false_and]
  have e2 : toldP 29 true 75 ts σ = none := by
    have : Nat.beq 75 29 = false := by decide
    simp only [toldP, this, Bool.false_and]
  have e3 : bigP Tryz.prog [18] 75 ts σ = none := by
    have : [18].contains 75 = false := by decide
    simp only [bigP, this]
  exact (orP_right e1).trans ((orP_right e2).trans (orP_left ((orP_right e3).trans (orP_left h))))

theorem insP_at {f0 e i o n q j p m c : Nat} {k : Int} {σ : St} {vs us : List S} (hi : σ.get i = some (.cells true vs)) (hj : σ.get j = some (.cells true us))
    (hd : decide (q = e ∧ o = 0 ∧ 0 ≤ k ∧ k < n ∧ m = 1 ∧ c = 1 ∧ n ≤ 1000000 ∧ n * e ≤ vs.length ∧ i ≠ j ∧ p + e ≤ us.length ∧ e ≠ 0) = true) :
    insP f0 e f0 [Z (.sl i o n (.grown q)), I .i64 k, Z (.sl j p m (.known c))] σ = some (Z (.sl σ.size 0 (n + 1) (.grown e)), (σ.set i .dead).push (.cells true (vs.take (k.toNat * e) ++ (us.drop p).take e ++ (vs.drop (k.toNat * e)).take ((n - k.toNat) * e)))) := by
  have hn : Nat.beq f0 f0 = true := Nat.beq_refl f0
  delta insP
  dsimp only
  rw [hn]
  dsimp only
  rw [hi, hj]
  dsimp only
  rw [hd]

theorem insP_not {f0 e i o n q j p m c : Nat} {k : Int} {σ : St} {vs us : List S} (hi : σ.get i = some (.cells true vs)) (hj : σ.get j = some (.cells true us))
    (hd : decide (q = e ∧ o = 0 ∧ 0 ≤ k ∧ k < n ∧ m = 1 ∧ c = 1 ∧ n ≤ 1000000 ∧ n * e ≤ vs.length ∧ i ≠ j ∧ p + e ≤ us.length ∧ e ≠ 0) = false) :
    insP f0 e f0 [Z (.sl i o n (.grown q)), I .i64 k, Z (.sl j p m (.known c))] σ = none := by
  have hn : Nat.beq f0 f0 = true := Nat.beq_refl f0
  delta insP
  dsimp only
  rw [hn]
  dsimp only
  rw [hi, hj]
  dsimp only
  rw [hd]

theorem delP_at {f0 e i o n q : Nat} {a b : Int} {z : List S} {σ : St} {vs : List S} (hi : σ.get i = some (.cells true vs)) (hd : decide (q = e ∧ 0 ≤ a ∧ b = a + 1 ∧ b ≤ n ∧ n ≤ 1000000 ∧ o + n * e ≤ vs.length) = true) :
    delP f0 e z f0 [Z (.sl i o n (.grown q)), I .i64 a, I .i64 b] σ = some (Z (.sl i o (n - 1) (.grown e)), (σ.set i (.cells true (setRange vs (o + a.toNat * e) ((vs.drop (o + (a.toNat + 1) * e)).take ((n - 1 - a.toNat) * e))))).set i (.cells true (setRange (setRange vs (o + a.toNat * e) ((vs.drop (o + (a.toNat + 1) * e)).take ((n - 1 - a.toNat) * e))) (o + (n - 1) * e) z))) := by
  have hn : Nat.beq f0 f0 = true := Nat.beq_refl f0
  delta delP
  dsimp only
  rw [hn]
  dsimp only
  rw [hi]
  dsimp only
  rw [hd]

theorem insBody (d : Nat) {a0 a1 a2 : T} {s : St} (hp : prim 74 [a0, a1, a2] s = none) : R (d + 1) 74 [a0, a1, a2] s = f74 (R d) 8192 a0 a1 a2 s :=
  (runQ_body hp Tryz.func74 (by kernel_rfl)).trans (f74_eq _ _ _ _ _ _)

/-- What an insertion or a removal leaves. -/
structure NewI (s t : St) (x y : S) (l : List Inf) : Prop where
  wf : t.wf
  le : s.size ≤ t.size
  ins : InS t y l
  old : ∀ b, b < s.size → own x ≠ some b → t.get b = s.get b
  new : ∀ c, own y = some c → own x = some c ∨ s.size ≤ c

theorem ins_run (d : Nat) (wf : s.wf) (h : InS s x l) (hl : l.length ≤ 8000) {k j : Nat} (hk : k ≤ l.length) {a : Inf} (hj : s.get j = some (.cells true (cI a))) (hjx : ∀ c, own x = some c → c ≠ j) :
    ∃ y t, R (d + 1) 74 [Z x, I .i64 ((k : Nat) : Int), Z (.sl j 0 1 (.known 1))] s = some (Z y, t) ∧ NewI s t x y (l.take k ++ a :: l.drop k) := by
  have hcl := cells_len (e := 5) cI_len l
  have hjs := wf.lt hj
  have src : aSrc 5 (Z (.sl j 0 1 (.known 1))) s.get = some (1, cI a) := by
    simp only [aSrc, if_neg (show ¬ (1 : Nat) = 0 by decide), hj]
    rw [if_pos (show 0 + 1 * 5 ≤ (cI a).length by simp [cI])]
    rfl
  have le2 : aLenSl (Z (.sl j 0 1 (.known 1))) = some (I .i64 1) := rfl
  have f1 : aBin .eql (I .i64 1) (I .i64 0) = some (B false) := rfl
  rcases h with ⟨rfl, rfl⟩ | ⟨c, vs, rfl, hb, ht⟩
  · -- a nil list
    have hk0 : k = 0 := by simpa using hk
    subst hk0
    have hp : prim 74 [Z .nils, I .i64 ((0 : Nat) : Int), Z (.sl j 0 1 (.known 1))] s = none := by
      rw [prim_ins]; rfl
    rw [insBody d hp]
    unfold f74
    have p1 : aPieceSl 5 (Z .nils) (some (I .i64 ((0 : Nat) : Int))) none none = some (Z .nils) := rfl
    have ap : aAppend 5 40 (Z .nils) (Z (.sl j 0 1 (.known 1))) s = some (Z (.sl s.size 0 1 (.grown 5)), s.push (.cells true (cI a))) := by
      simp only [aAppend, src]
      rfl
    have e0 : aLenSl (Z .nils) = some (I .i64 ((0 : Nat) : Int)) := rfl
    have f2 : aBin .eql (I .i64 ((0 : Nat) : Int)) (I .i64 ((0 : Nat) : Int)) = some (B true) := rfl
    refine ⟨.sl s.size 0 1 (.grown 5), s.push (.cells true (cI a)), ?_, St.wf_push wf _, by simp, .inr ⟨s.size, cI a, rfl, St.get_push_same _ _, by simp [cells, cI]⟩, fun b hb _ => St.get_push_ne _ _ (by omega), fun c hc => by cases hc; exact .inr (Nat.le_refl _)⟩
    simp only [p1, bd_some, le2, f1, br_false, e0, f2, br_true, ap, bd2_some]
  · have hcj : c ≠ j := hjx c rfl
    have hvl : l.length * 5 ≤ vs.length := by
      have := congrArg List.length ht
      rw [List.length_take, hcl] at this
      omega
    have hcs := wf.lt hb
    by_cases hkl : k < l.length
    · -- ahead of another
      have hd : decide ((5 : Nat) = 5 ∧ (0 : Nat) = 0 ∧ (0 : Int) ≤ ((k : Nat) : Int) ∧ ((k : Nat) : Int) < ((l.length : Nat) : Int) ∧ (1 : Nat) = 1 ∧ (1 : Nat) = 1 ∧ l.length ≤ 1000000 ∧ l.length * 5 ≤ vs.length ∧ c ≠ j ∧ 0 + 5 ≤ (cI a).length ∧ (5 : Nat) ≠ 0) = true :=
        decide_eq_true ⟨rfl, rfl, by omega, by omega, rfl, rfl, by omega, hvl, hcj, by simp [cI], by decide⟩
      have hi : insP 74 5 74 [Z (.sl c 0 l.length (.grown 5)), I .i64 ((k : Nat) : Int), Z (.sl j 0 1 (.known 1))] s =
          some (Z (.sl s.size 0 (l.length + 1) (.grown 5)), (s.set c .dead).push (.cells true (vs.take (k * 5) ++ ((cI a).drop 0).take 5 ++ (vs.drop (k * 5)).take ((l.length - k) * 5)))) := by
        rw [insP_at hb hj hd, Int.toNat_natCast]
      have hr := runQ_prim (P := Tryz.prog) (N := 8192) (d := d) (prim_ins.trans hi)
      refine ⟨_, _, hr, St.wf_push (St.wf_set wf hcs _) _, by simp, .inr ⟨s.size, vs.take (k * 5) ++ ((cI a).drop 0).take 5 ++ (vs.drop (k * 5)).take ((l.length - k) * 5), ?_, ?_, ?_⟩, fun b hb' hne => ?_, fun d hd => by cases hd; exact .inr (Nat.le_refl _)⟩
      · have : (l.take k ++ a :: l.drop k).length = l.length + 1 := by simp; omega
        rw [this]
      · exact St.get_push_same (s.set c .dead) _
      · have e1 : (cI a).drop 0 = cI a := rfl
        have e2 : (cI a).take 5 = cI a := rfl
        have e3 : vs.take (k * 5) = cells cI (l.take k) := by
          rw [← cells_take (e := 5) cI_len k l, ← ht, List.take_take]
          congr 1; omega
        have e4 : (vs.drop (k * 5)).take ((l.length - k) * 5) = cells cI (l.drop k) := by
          rw [← cells_drop (e := 5) cI_len k l, ← ht, List.drop_take]
          congr 1; omega
        have e5 : cells cI (l.take k ++ a :: l.drop k) = cells cI (l.take k) ++ cI a ++ cells cI (l.drop k) := by
          simp [cells]
        rw [e1, e2, e3, e4, ← e5, List.take_of_length_le]
        rw [cells_len (e := 5) cI_len]
        omega
      · rw [St.get_push_ne (s.set c .dead) _ (by simp; omega), St.get_set_ne _ _ (fun e => hne (by rw [e]; rfl))]
    · -- at the end
      have hke : k = l.length := by omega
      subst hke
      have hd : decide ((5 : Nat) = 5 ∧ (0 : Nat) = 0 ∧ (0 : Int) ≤ ((l.length : Nat) : Int) ∧ ((l.length : Nat) : Int) < ((l.length : Nat) : Int) ∧ (1 : Nat) = 1 ∧ (1 : Nat) = 1 ∧ l.length ≤ 1000000 ∧ l.length * 5 ≤ vs.length ∧ c ≠ j ∧ 0 + 5 ≤ (cI a).length ∧ (5 : Nat) ≠ 0) = false :=
        decide_eq_false fun h => by omega
      have hp : prim 74 [Z (.sl c 0 l.length (.grown 5)), I .i64 ((l.length : Nat) : Int), Z (.sl j 0 1 (.known 1))] s = none := by
        rw [prim_ins, insP_not hb hj hd]
      rw [insBody d hp]
      unfold f74
      have p1 : aPieceSl 5 (Z (.sl c 0 l.length (.grown 5))) (some (I .i64 ((l.length : Nat) : Int))) none none = some (Z (.emp c 5)) := by
        simp only [aPieceSl, aBounds_lo (Nat.le_refl l.length) (Nat.le_refl l.length), if_pos trivial, if_neg (Nat.lt_irrefl _)]
      have e0 : aLenSl (Z (.sl c 0 l.length (.grown 5))) = some (I .i64 ((l.length : Nat) : Int)) := rfl
      have f2 : aBin .eql (I .i64 ((l.length : Nat) : Int)) (I .i64 ((l.length : Nat) : Int)) = some (B true) := by
        rw [eql_int, decide_eq_true rfl]
      have hsz : (l.take l.length ++ a :: l.drop l.length).length = l.length + 1 := by simp
      have hlast : l.take l.length ++ a :: l.drop l.length = l ++ [a] := by simp
      have hcell : cells cI (l ++ [a]) = cells cI l ++ cI a := by simp [cells]
      have c1 : True ∧ (l.length + 1) * 40 ≤ 140737488355328 := ⟨trivial, by omega⟩
      by_cases hroom : 0 + (l.length + 1) * 5 ≤ vs.length
      · have ap : aAppend 5 40 (Z (.sl c 0 l.length (.grown 5))) (Z (.sl j 0 1 (.known 1))) s = some (Z (.sl c 0 (l.length + 1) (.grown 5)), s.set c (.cells true (setRange vs (0 + l.length * 5) (cI a)))) := by
          simp only [aAppend, src, if_neg (show ¬ (5 : Nat) = 0 by decide), if_neg (show ¬ (1 : Nat) = 0 by decide), hb]
          rw [if_pos c1, if_pos hroom]
        refine ⟨.sl c 0 (l.length + 1) (.grown 5), s.set c (.cells true (setRange vs (0 + l.length * 5) (cI a))), by simp only [p1, bd_some, le2, f1, br_false, e0, f2, br_true, ap, bd2_some], St.wf_set wf hcs _, by simp, .inr ⟨c, _, by rw [hsz], St.get_set_same _ _ _, ?_⟩, fun b hb' hne => St.get_set_ne _ _ (fun e => hne (by rw [e]; rfl)), fun d hd => .inl hd⟩
        rw [hlast, hcell, setRange_eq _ _ _ (by simp [cI]; omega), Nat.zero_add, ht, List.take_left']
        simp [hcl, cI]; omega
      · have ap : aAppend 5 40 (Z (.sl c 0 l.length (.grown 5))) (Z (.sl j 0 1 (.known 1))) s = some (Z (.sl s.size 0 (l.length + 1) (.grown 5)), (s.set c .dead).push (.cells true ((vs.drop 0).take (l.length * 5) ++ cI a))) := by
          simp only [aAppend, src, if_neg (show ¬ (5 : Nat) = 0 by decide), if_neg (show ¬ (1 : Nat) = 0 by decide), hb]
          rw [if_pos c1, if_neg hroom, if_pos (by omega)]
        refine ⟨.sl s.size 0 (l.length + 1) (.grown 5), (s.set c .dead).push (.cells true ((vs.drop 0).take (l.length * 5) ++ cI a)), by simp only [p1, bd_some, le2, f1, br_false, e0, f2, br_true, ap, bd2_some], St.wf_push (St.wf_set wf hcs _) _, by simp, .inr ⟨s.size, _, by rw [hsz], St.get_push_same (s.set c .dead) _, ?_⟩, fun b hb' hne => ?_, fun d hd => by cases hd; exact .inr (Nat.le_refl _)⟩
        · rw [hlast, hcell, List.drop_zero, ht, List.take_of_length_le]
          simp [hcl, cI]; omega
        · rw [St.get_push_ne (s.set c .dead) _ (by simp; omega), St.get_set_ne _ _ (fun e => hne (by rw [e]; rfl))]

theorem del_run (d : Nat) (wf : s.wf) (h : InS s x l) (hl : l.length ≤ 8000) {k : Nat} (hk : k < l.length) :
    ∃ y t, R (d + 1) 75 [Z x, I .i64 ((k : Nat) : Int), I .i64 ((k + 1 : Nat) : Int)] s = some (Z y, t) ∧ NewI s t x y (l.take k ++ l.drop (k + 1)) := by
  have hcl := cells_len (e := 5) cI_len l
  rcases h with ⟨rfl, rfl⟩ | ⟨c, vs, rfl, hb, ht⟩
  · simp at hk
  · have hvl : l.length * 5 ≤ vs.length := by
      have := congrArg List.length ht
      rw [List.length_take, hcl] at this
      omega
    have hcs := wf.lt hb
    have hd : decide ((5 : Nat) = 5 ∧ (0 : Int) ≤ ((k : Nat) : Int) ∧ ((k + 1 : Nat) : Int) = ((k : Nat) : Int) + 1 ∧ ((k + 1 : Nat) : Int) ≤ ((l.length : Nat) : Int) ∧ l.length ≤ 1000000 ∧ 0 + l.length * 5 ≤ vs.length) = true :=
      decide_eq_true ⟨rfl, by omega, by omega, by omega, by omega, by omega⟩
    obtain ⟨A, hA⟩ : ∃ A, A = setRange vs (0 + k * 5) ((vs.drop (0 + (k + 1) * 5)).take ((l.length - 1 - k) * 5)) := ⟨_, rfl⟩
    obtain ⟨Bl, hB⟩ : ∃ Bl, Bl = setRange A (0 + (l.length - 1) * 5) [.int .i64 0, .int .i64 0, .int .i64 0, .int .i64 0, .int .u32 0] := ⟨_, rfl⟩
    have hi : delP 75 5 [.int .i64 0, .int .i64 0, .int .i64 0, .int .i64 0, .int .u32 0] 75 [Z (.sl c 0 l.length (.grown 5)), I .i64 ((k : Nat) : Int), I .i64 ((k + 1 : Nat) : Int)] s =
        some (Z (.sl c 0 (l.length - 1) (.grown 5)), (s.set c (.cells true A)).set c (.cells true Bl)) := by
      rw [delP_at hb hd, Int.toNat_natCast, ← hA, ← hB]
    have hr := runQ_prim (P := Tryz.prog) (N := 8192) (d := d) (prim_del hi)
    have hsz : (l.take k ++ l.drop (k + 1)).length = l.length - 1 := by simp; omega
    refine ⟨_, _, hr, St.wf_set (St.wf_set wf hcs _) (by simpa using hcs) _, by simp, .inr ⟨c, Bl, by rw [hsz], St.get_set_same _ _ _, ?_⟩, fun b hb' hne => ?_, fun d hd => .inl hd⟩
    · have e3 : vs.take (k * 5) = cells cI (l.take k) := by
        rw [← cells_take (e := 5) cI_len k l, ← ht, List.take_take]
        congr 1; omega
      have e4 : (vs.drop ((k + 1) * 5)).take ((l.length - 1 - k) * 5) = cells cI (l.drop (k + 1)) := by
        rw [← cells_drop (e := 5) cI_len (k + 1) l, ← ht, List.drop_take]
        congr 1; omega
      have hln : ((vs.drop ((k + 1) * 5)).take ((l.length - 1 - k) * 5)).length = (l.length - 1 - k) * 5 := by simp; omega
      have hAl : A.length = vs.length := by rw [hA, setRange_length]
      have e6 : A.take ((l.length - 1) * 5) = cells cI (l.take k) ++ cells cI (l.drop (k + 1)) := by
        rw [hA, Nat.zero_add, Nat.zero_add, setRange_eq _ _ _ (by rw [hln]; omega), e3, e4, List.take_left']
        rw [List.length_append, cells_len (e := 5) cI_len, cells_len (e := 5) cI_len]
        simp; omega
      have e7 : Bl.take ((l.length - 1) * 5) = A.take ((l.length - 1) * 5) := by
        rw [hB, Nat.zero_add, setRange_eq _ _ _ (by simp; omega), List.append_assoc, List.take_left']
        simp; omega
      rw [hsz, e7, e6, cells_append]
    · have hne' : b ≠ c := fun e => hne (by rw [e]; rfl)
      rw [St.get_set_ne _ _ hne', St.get_set_ne _ _ hne']
end
end Go.Proofs.YtlhbidbdmdcdeaaGreatDoor

/-
  What entries come to, one by one, in plain words. No conditions but those named in each line.
-/
namespace Go.Proofs.YtlhbidbdmdcdeaaGreatDoor
open Go Go.Abs Go.Abs.F
set_option linter.unusedVariables false

structure FoS where
  l : List Inf
  ever : List Int
  rule : Pol
  v : Int
  w : Int

def lowI (id : Int) (a : Inf) : Bool := decide (a.i < id)
def kOf (l : List Inf) (id : Int) : Nat := (l.takeWhile (lowI id)).length
def thereP (l : List Inf) (id : Int) : Bool := l.any fun a => decide (a.i = id)
def infE (e : Ent) : Inf := ⟨e.i, e.t, e.f, e.o, e.u⟩
def insL (l : List Inf) (a : Inf) : List Inf := l.take (kOf l a.i) ++ a :: l.drop (kOf l a.i)
def delL (l : List Inf) (id : Int) : List Inf := l.take (kOf l id) ++ l.drop (kOf l id + 1)
def asksP (q : FoS) (e : Ent) : Int :=
  if mayE e = true then (if e.k = 1 ∧ e.i ∈ q.ever then 7 else if e.k = 2 ∧ thereP q.l e.i = false then 9 else if e.v < q.w then 12 else 0) else 1
def nextP (q : FoS) (e : Ent) : FoS :=
  if e.k = 1 then ⟨insL q.l (infE e), q.ever ++ [e.i], q.rule, q.v, e.v⟩
  else if e.k = 2 then ⟨delL q.l e.i, q.ever, q.rule, q.v, e.v⟩
  else if e.k = 3 then ⟨q.l, q.ever, q.rule, e.v, e.v⟩
  else ⟨q.l, q.ever, (parseP e.x).1, q.v, e.v⟩
def foldGo (q : FoS) : List Ent → Int × FoS
  | [] => (0, q)
  | e :: r => if asksP q e = 0 then foldGo (nextP q e) r else (asksP q e, q)
def fs0 : FoS := ⟨[], [], polD, 0, 0⟩

structure FOk (q : FoS) : Prop where
  up : q.l.Pairwise fun a b => a.i < b.i
  rng : ∀ a ∈ q.l, 1 ≤ a.i ∧ a.i ≤ 1073741824
  ev : ∀ a ∈ q.l, a.i ∈ q.ever
  len : q.l.length ≤ q.ever.length

theorem fs0_ok : FOk fs0 := ⟨.nil, (by intro a h; simp [fs0] at h), (by intro a h; simp [fs0] at h), Nat.le_refl _⟩

theorem tw_len {α : Type} {p : α → Bool} : ∀ (l : List α) (k : Nat), k ≤ l.length → (∀ (a : Nat) (x : α), a < k → l[a]? = some x → p x = true) → (∀ x, l[k]? = some x → p x = false) → (l.takeWhile p).length = k
  | [], k, h, _, _ => by simp at h; subst h; rfl
  | a :: l, 0, _, _, h => by
    have := h a rfl
    simp [List.takeWhile_cons, this]
  | a :: l, k + 1, hk, h1, h2 => by
    have h0 := h1 0 a (by omega) rfl
    rw [List.takeWhile_cons, h0]
    simp only [if_true, List.length_cons]
    rw [tw_len l k (by simpa using hk) (fun b x hb hx => h1 (b + 1) x (by omega) (by simpa using hx)) (fun x hx => h2 x (by simpa using hx))]

theorem take_kOf (l : List Inf) (id : Int) : l.take (kOf l id) = l.takeWhile (lowI id) := by
  unfold kOf
  induction l with
  | nil => rfl
  | cons a l ih =>
    rw [List.takeWhile_cons]
    split
    · rw [List.length_cons, List.take_succ_cons, ih]
    · rfl

theorem drop_kOf (l : List Inf) (id : Int) : l.drop (kOf l id) = l.dropWhile (lowI id) := by
  unfold kOf
  induction l with
  | nil => rfl
  | cons a l ih =>
    rw [List.takeWhile_cons, List.dropWhile_cons]
    split
    · rw [List.length_cons, List.drop_succ_cons, ih]
    · rfl

theorem low_take {l : List Inf} {id : Int} {a : Inf} (h : a ∈ l.take (kOf l id)) : a.i < id := by
  rw [take_kOf] at h
  have : ∀ m : List Inf, a ∈ m.takeWhile (lowI id) → a.i < id := by
    intro m
    induction m with
    | nil => intro h; cases h
    | cons b m ih =>
      intro h
      rw [List.takeWhile_cons] at h
      split at h
      · rename_i hb
        rcases List.mem_cons.1 h with rfl | h
        · simpa [lowI] using hb
        · exact ih h
      · cases h
  exact this l h

theorem high_drop {l : List Inf} {id : Int} (hp : l.Pairwise fun a b => a.i < b.i) {a : Inf} (h : a ∈ l.drop (kOf l id)) : id ≤ a.i := by
  rw [drop_kOf] at h
  have : ∀ m : List Inf, (m.Pairwise fun a b => a.i < b.i) → a ∈ m.dropWhile (lowI id) → id ≤ a.i := by
    intro m
    induction m with
    | nil => intro _ h; cases h
    | cons b m ih =>
      intro hp h
      rw [List.dropWhile_cons] at h
      split at h
      · exact ih (List.pairwise_cons.1 hp).2 h
      · rename_i hb
        have hb' : id ≤ b.i := by simpa [lowI] using hb
        rcases List.mem_cons.1 h with rfl | h
        · exact hb'
        · have := (List.pairwise_cons.1 hp).1 a h
          omega
  exact this l hp h

theorem up_at {l : List Inf} (hp : l.Pairwise fun a b => a.i < b.i) {a b : Nat} {x y : Inf} (hab : a < b) (hx : l[a]? = some x) (hy : l[b]? = some y) : x.i < y.i := by
  obtain ⟨h1, rfl⟩ := List.getElem?_eq_some_iff.1 hx
  obtain ⟨h2, rfl⟩ := List.getElem?_eq_some_iff.1 hy
  exact List.pairwise_iff_getElem.1 hp a b h1 h2 hab

/-- A search among numbers that rise. -/
theorem found_eq {l : List Inf} {id : Int} {k : Nat} (h : Found l id k) (hp : l.Pairwise fun a b => a.i < b.i) (hr : ∀ a ∈ l, 1 ≤ a.i ∧ a.i ≤ 1073741824) (h0 : 1 ≤ id) (h1 : id ≤ 1073741824) : k = kOf l id ∧ hitI l id k = thereP l id := by
  have hc : ∀ a ∈ l, cmpI id a = a.i - id := fun a ha => by
    have := hr a ha
    exact cmpI_in (by omega) h1 (by omega) this.2
  have hm : ∀ (a b : Nat) (x y : Inf), a < b → l[a]? = some x → l[b]? = some y → cmpI id y < 0 → cmpI id x < 0 := fun a b x y hab hx hy hlt => by
    have := up_at hp hab hx hy
    rw [hc y (List.mem_of_getElem? hy)] at hlt
    rw [hc x (List.mem_of_getElem? hx)]
    omega
  have hl : ∀ (a : Nat) (x : Inf), a < k → l[a]? = some x → x.i < id := fun a x ha hx => by
    have := h.low hm a x ha hx
    rw [hc x (List.mem_of_getElem? hx)] at this
    omega
  have hh : ∀ (a : Nat) (x : Inf), k ≤ a → l[a]? = some x → id ≤ x.i := fun a x ha hx => by
    have := h.high hm a x ha hx
    rw [hc x (List.mem_of_getElem? hx)] at this
    omega
  refine ⟨(tw_len l k h.le (fun a x ha hx => decide_eq_true (hl a x ha hx)) (fun x hx => decide_eq_false (by have := hh k x (Nat.le_refl _) hx; omega))).symm, ?_⟩
  unfold hitI thereP
  cases hk : l[k]? with
  | none =>
    symm
    rw [List.any_eq_false]
    intro x hx
    obtain ⟨a, ha⟩ := List.getElem?_of_mem hx
    have hle : l.length ≤ k := List.getElem?_eq_none_iff.1 hk
    have := hl a x (by have := (List.getElem?_eq_some_iff.1 ha).1; omega) ha
    simp only [decide_eq_true_eq]
    omega
  | some y =>
    have hy := List.mem_of_getElem? hk
    show decide (cmpI id y = 0) = _
    rw [hc y hy]
    by_cases e : y.i = id
    · rw [decide_eq_true (by omega)]
      symm
      rw [List.any_eq_true]
      exact ⟨y, hy, by simpa using e⟩
    · rw [decide_eq_false (by omega)]
      symm
      rw [List.any_eq_false]
      intro x hx
      obtain ⟨a, ha⟩ := List.getElem?_of_mem hx
      simp only [decide_eq_true_eq]
      intro ex
      have hyk := hh k y (Nat.le_refl _) hk
      rcases Nat.lt_trichotomy a k with hlt | rfl | hgt
      · have := hl a x hlt ha; omega
      · rw [ha] at hk; cases hk; exact e ex
      · have := up_at hp hgt hk ha; omega

theorem kOf_lt {l : List Inf} {id : Int} (hp : l.Pairwise fun a b => a.i < b.i) (h : thereP l id = true) : kOf l id < l.length := by
  unfold thereP at h
  rw [List.any_eq_true] at h
  obtain ⟨x, hx, ex⟩ := h
  have ex' : x.i = id := by simpa using ex
  have hd : x ∈ l.drop (kOf l id) := by
    have hx' := hx
    rw [← List.take_append_drop (kOf l id) l] at hx'
    rcases List.mem_append.1 hx' with h | h
    · have := low_take h; omega
    · exact h
  rcases Nat.lt_or_ge (kOf l id) l.length with h | h
  · exact h
  · rw [List.drop_eq_nil_of_le h] at hd; cases hd

theorem kOf_le (l : List Inf) (id : Int) : kOf l id ≤ l.length := (List.takeWhile_sublist _).length_le

theorem insL_mem {l : List Inf} {a b : Inf} (h : b ∈ insL l a) : b = a ∨ b ∈ l := by
  unfold insL at h
  rcases List.mem_append.1 h with h | h
  · exact .inr (List.mem_of_mem_take h)
  · rcases List.mem_cons.1 h with h | h
    · exact .inl h
    · exact .inr (List.mem_of_mem_drop h)

theorem delL_sub (l : List Inf) (id : Int) : (delL l id).Sublist l := by
  have h := List.take_append_drop (kOf l id) l
  conv => rhs; rw [← h]
  exact List.Sublist.append (List.Sublist.refl _) (by rw [← List.drop_drop]; exact List.drop_sublist 1 _)

theorem next_ok {q : FoS} {e : Ent} (h : FOk q) (ha : asksP q e = 0) : FOk (nextP q e) := by
  have hm : mayE e = true := by
    unfold asksP at ha
    by_cases hm : mayE e = true
    · exact hm
    · rw [if_neg hm] at ha; cases ha
  obtain ⟨v0, v1, k0, k1, h1, h2, h3, h4⟩ := mayE_range hm
  unfold nextP
  by_cases c1 : e.k = 1
  · rw [if_pos c1]
    have hne : e.i ∉ q.ever := by
      unfold asksP at ha
      rw [if_pos hm] at ha
      intro hin
      rw [if_pos ⟨c1, hin⟩] at ha
      cases ha
    obtain ⟨_, i0, i1, _⟩ := h1 c1
    refine ⟨?_, fun a ha => ?_, fun a ha => ?_, ?_⟩
    · show (insL q.l (infE e)).Pairwise _
      unfold insL
      refine List.pairwise_append.2 ⟨h.up.sublist (List.take_sublist _ _), List.pairwise_cons.2 ⟨fun b hb => ?_, h.up.sublist (List.drop_sublist _ _)⟩, fun a ha b hb => ?_⟩
      · have hb1 := high_drop h.up hb
        have hb2 := h.ev b (List.mem_of_mem_drop hb)
        have : b.i ≠ e.i := fun he => hne (by rw [← he]; exact hb2)
        show e.i < b.i
        have : e.i ≤ b.i := hb1
        omega
      · have ha1 := low_take ha
        rcases List.mem_cons.1 hb with rfl | hb
        · exact ha1
        · have := high_drop h.up hb
          omega
    · rcases insL_mem ha with rfl | ha
      · exact ⟨i0, i1⟩
      · exact h.rng a ha
    · rcases insL_mem ha with rfl | ha
      · exact List.mem_append_right _ (by simp [infE])
      · exact List.mem_append_left _ (h.ev a ha)
    · have := h.len
      simp only [insL, List.length_append, List.length_take, List.length_cons, List.length_drop, List.length_nil]
      have := kOf_le q.l (infE e).i
      omega
  · rw [if_neg c1]
    by_cases c2 : e.k = 2
    · rw [if_pos c2]
      have hs := delL_sub q.l e.i
      exact ⟨h.up.sublist hs, fun a ha => h.rng a (hs.subset ha), fun a ha => h.ev a (hs.subset ha), Nat.le_trans hs.length_le h.len⟩
    · rw [if_neg c2]
      by_cases c3 : e.k = 3
      · rw [if_pos c3]; exact ⟨h.up, h.rng, h.ev, h.len⟩
      · rw [if_neg c3]; exact ⟨h.up, h.rng, h.ev, h.len⟩

theorem next_ever {q : FoS} {e : Ent} : (nextP q e).ever.length ≤ q.ever.length + 1 := by
  unfold nextP
  split
  · simp
  · split
    · simp
    · split <;> simp
end Go.Proofs.YtlhbidbdmdcdeaaGreatDoor

/-
  The document's own lists of segments: find, has, insert, and are two the same? No conditions but those named in each line.
-/
namespace Go.Proofs.YtlhbidbdmdcdeaaGreatDoor
open Go Go.Abs Go.Abs.F
set_option linter.unusedVariables false
section
variable {s t : St} {x y : S} {l m : List Inf}

abbrev RI (s : St) (x : S) (l : List Inf) : Prop := Rd 5 s x l.length (cells cI l)
abbrev FI (s0 s : St) (x : S) (l : List Inf) : Prop := Fr 5 s0 s x l.length (cells cI l)

theorem RI.atI (h : RI s x l) {j : Nat} {n : Int} {a : Inf} (hn : n = j) (ha : l[j]? = some a) : ∃ c p, aIndexSl 5 (Z x) (I .i64 n) = some (Z (.ptr c p)) ∧ aLoad1 (Z (.ptr c (p + 0))) s.get = some (I .i64 a.i) ∧ aLoadN 5 (Z (.ptr c p)) s.get = some (AI a) := by
  obtain ⟨c, p, h1, h2, h3⟩ := Rd.at h hn (List.getElem?_eq_some_iff.1 ha).1
  rw [cells_row cI_len ha] at h3
  exact ⟨c, p, h1, h2 0 (.int .i64 a.i) (by omega) (by rw [cells_get cI_len ha (by omega)]; rfl), h3⟩

/-- The place of the first segment of a number; -1. -/
def findI (id : Int) : List Inf → Nat → Int
  | [], _ => -1
  | a :: l, n => if a.i = id then ((n : Nat) : Int) else findI id l (n + 1)

theorem rfind_run (d : Nat) (h : RI s x l) (hl : l.length ≤ 8000) (id : Int) : R (d + 1) 61 [Z x, I .i64 id] s = some (I .i64 (findI id l 0), s) := by
  rw [f61_run]
  unfold f61
  have ll := h.lens
  obtain ⟨j, τ, lp, hj, rfl⟩ := loops_inv (f := f61_l1 (R d) 8192)
    (fun q v u => ∃ n : Nat, q + n = l.length ∧ v = [Z x, I .i64 id, I .i64 ((n : Nat) : Int)] ∧ u = s ∧ findI id (l.drop n) n = findI id l 0)
    (fun j u => (j = .exit 0 [] ∧ findI id l 0 = -1 ∨ j = .ret (I .i64 (findI id l 0))) ∧ u = s) (by
    rintro q v u ⟨n, hn, rfl, rfl, hf⟩
    by_cases hnl : n < l.length
    · have hg : l[n]? = some l[n] := List.getElem?_eq_getElem hnl
      obtain ⟨a, ha⟩ : ∃ a, a = l[n] := ⟨_, rfl⟩
      rw [← ha] at hg
      rw [List.drop_eq_getElem_cons hnl, ← ha] at hf
      have hf' : (if a.i = id then ((n : Nat) : Int) else findI id (l.drop (n + 1)) (n + 1)) = findI id l 0 := hf
      obtain ⟨c, p, ix, l0, _⟩ := h.atI (n := ((n : Nat) : Int)) rfl hg
      have fa0 : aFieldAddr 0 (Z (.ptr c p)) = some (Z (.ptr c (p + 0))) := rfl
      have c0 : ((n : Nat) : Int) < ((l.length : Nat) : Int) := by omega
      have w1 : IntKind.i64.wrap ((n : Int) + 1) = ((n + 1 : Nat) : Int) := by rw [wrap_in _ (by omega) (by omega)]; omega
      by_cases hi : a.i = id
      · right
        rw [if_pos hi] at hf'
        refine ⟨.ret (I .i64 (findI id l 0)), u, ?_, (fun v hv => by cases hv), .inr rfl, rfl⟩
        rw [← hf']
        unfold f61_l1
        clear hf hf'
        generalize ((n : Nat) : Int) = N0 at *
        generalize ((l.length : Nat) : Int) = LL at *
        generalize p + 0 = p0 at *
        simp [ll, c0, ix, fa0, l0, hi]
      · left
        rw [if_neg hi] at hf'
        refine ⟨[Z x, I .i64 id, I .i64 ((n + 1 : Nat) : Int)], u, q - 1, ?_, by omega, n + 1, by omega, rfl, rfl, hf'⟩
        unfold f61_l1
        clear hf hf'
        generalize ((n + 1 : Nat) : Int) = N1 at *
        generalize ((n : Nat) : Int) = N0 at *
        generalize ((l.length : Nat) : Int) = LL at *
        generalize p + 0 = p0 at *
        simp [ll, c0, ix, fa0, l0, hi, w1]
    · right
      have hnn : n = l.length := by omega
      subst hnn
      rw [List.drop_length] at hf
      refine ⟨.exit 0 [], u, ?_, (fun v hv => by cases hv), .inl ⟨rfl, hf.symm⟩, rfl⟩
      unfold f61_l1
      simp [ll]) 8192 l.length [Z x, I .i64 id, I .i64 0] s ⟨0, by omega, rfl, rfl, by rw [List.drop_zero]⟩ (by omega)
  rcases hj with ⟨rfl, hf⟩ | rfl
  · rw [hf]
    simp [lp]
  · generalize findI id l 0 = FF at *
    simp [lp]

theorem find_eq : ∀ (l : List Inf) (id : Int) (n : Nat), (l.Pairwise fun a b => a.i < b.i) → findI id l n = if thereP l id = true then ((n + kOf l id : Nat) : Int) else -1
  | [], id, n, _ => rfl
  | a :: l, id, n, hp => by
    have hp' := List.pairwise_cons.1 hp
    have ih := find_eq l id (n + 1) hp'.2
    show (if a.i = id then ((n : Nat) : Int) else findI id l (n + 1)) = _
    by_cases h : a.i = id
    · have ht : thereP (a :: l) id = true := by simp [thereP, h]
      have hk : kOf (a :: l) id = 0 := by simp [kOf, List.takeWhile_cons, lowI, h]
      rw [if_pos h, ht, hk, if_pos rfl]
      rfl
    · rw [if_neg h, ih]
      have ht : thereP (a :: l) id = thereP l id := by simp [thereP, h]
      rw [ht]
      by_cases hl : thereP l id = true
      · rw [if_pos hl, if_pos hl]
        have hlow : lowI id a = true := by
          unfold thereP at hl
          rw [List.any_eq_true] at hl
          obtain ⟨b, hb, eb⟩ := hl
          have := hp'.1 b hb
          have eb' : b.i = id := by simpa using eb
          exact decide_eq_true (by omega)
        have hk : kOf (a :: l) id = kOf l id + 1 := by simp [kOf, List.takeWhile_cons, hlow]
        rw [hk]
        congr 1; omega
      · rw [if_neg hl, if_neg hl]

abbrev I64I (l : List Int) : List S := l.map (S.int .i64)
theorem rhas_run (d : Nat) {is : List Int} (h : Rd 1 s x is.length (I64I is)) (hl : is.length ≤ 8000) (id : Int) : R (d + 1) 62 [Z x, I .i64 id] s = some (B (decide (id ∈ is)), s) := by
  rw [f62_run]
  unfold f62
  have ll := h.lens
  obtain ⟨j, τ, lp, hj, rfl⟩ := loops_inv (f := f62_l1 (R d) 8192)
    (fun q v u => ∃ n : Nat, q + n = is.length ∧ v = [Z x, I .i64 id, I .i64 ((n : Nat) : Int)] ∧ u = s ∧ id ∉ is.take n)
    (fun j u => (j = .exit 0 [] ∧ id ∉ is ∨ j = .ret (B true) ∧ id ∈ is) ∧ u = s) (by
    rintro q v u ⟨n, hn, rfl, rfl, hf⟩
    by_cases hnl : n < is.length
    · have hg : is[n]? = some is[n] := List.getElem?_eq_getElem hnl
      obtain ⟨p, ix, ld⟩ := h.at1 (j := n) (i := ((n : Nat) : Int)) (v := .int .i64 is[n]) rfl (by simp [I64I, hnl])
      have c0 : ((n : Nat) : Int) < ((is.length : Nat) : Int) := by omega
      have w1 : IntKind.i64.wrap ((n : Int) + 1) = ((n + 1 : Nat) : Int) := by rw [wrap_in _ (by omega) (by omega)]; omega
      by_cases hi : is[n] = id
      · right
        refine ⟨.ret (B true), u, ?_, (fun v hv => by cases hv), .inr ⟨rfl, by rw [← hi]; exact List.getElem_mem hnl⟩, rfl⟩
        unfold f62_l1
        generalize ((n : Nat) : Int) = N0 at *
        generalize ((is.length : Nat) : Int) = LL at *
        simp [ll, c0, ix, ld, hi]
      · left
        refine ⟨[Z x, I .i64 id, I .i64 ((n + 1 : Nat) : Int)], u, q - 1, ?_, by omega, n + 1, by omega, rfl, rfl, ?_⟩
        · unfold f62_l1
          generalize ((n + 1 : Nat) : Int) = N1 at *
          generalize ((n : Nat) : Int) = N0 at *
          generalize ((is.length : Nat) : Int) = LL at *
          simp [ll, c0, ix, ld, hi, w1]
        · rw [List.take_add_one, hg]
          intro hm
          rcases List.mem_append.1 hm with h1 | h1
          · exact hf h1
          · have h2 : id = is[n] := by simpa using h1
            exact hi h2.symm
    · right
      have hnn : n = is.length := by omega
      subst hnn
      rw [List.take_length] at hf
      refine ⟨.exit 0 [], u, ?_, (fun v hv => by cases hv), .inl ⟨rfl, hf⟩, rfl⟩
      unfold f62_l1
      simp [ll]) 8192 is.length [Z x, I .i64 id, I .i64 0] s ⟨0, by omega, rfl, rfl, by simp⟩ (by omega)
  rcases hj with ⟨rfl, hf⟩ | ⟨rfl, hf⟩
  · rw [decide_eq_false hf]
    simp [lp]
  · rw [decide_eq_true hf]
    simp [lp]

/-- A beginning, one more (or none), and the rest, in a new slice. -/
theorem split3 (wf : s.wf) (h : RI s x l) (hox : ∀ c, own x = some c → c < s.size) (hl : l.length ≤ 8000) {k r : Nat} (hk : k ≤ l.length) (hr : r ≤ l.length) :
    ∃ s1 y1 y s2, aNew s (nSlice 0 (aFill [] [])) = some (Z (.sl s.size 0 0 (.known 0)), s1) ∧ aPieceSl 5 (Z x) none (some (I .i64 ((k : Nat) : Int))) none = some (Z y1) ∧ aAppend 5 40 (Z (.sl s.size 0 0 (.known 0))) (Z y1) s1 = some (Z y, s2) ∧
      FI s s2 y (l.take k) ∧ ∃ y2, aPieceSl 5 (Z x) (some (I .i64 ((r : Nat) : Int))) none none = some (Z y2) ∧ (own y2 = none ∨ own y2 = own x) ∧ RI s y2 (l.drop r) := by
  have f0 := Fr.lit 5 wf (n := 0) (vs := []) rfl
  obtain ⟨y1, p1, rd1, ow1⟩ := Rd.upto h hk
  rw [cells_take cI_len] at rd1
  have o1 : ∀ c, own y1 = some c → c < s.size := fun c hc => by
    rcases ow1 with e | e
    · rw [e] at hc; cases hc
    · rw [e] at hc; exact hox c hc
  have hlk : (l.take k).length = k := by rw [List.length_take]; omega
  obtain ⟨y, s2, e1, f1, _⟩ := f0.append (by_ := 40) (by omega) (rd1.gr o1 f0.gr).src (by rw [cells_len (e := 5) cI_len, hlk]) (by omega)
  simp only [Nat.zero_add, List.nil_append] at f1
  obtain ⟨y2, p2, rd2, ow2⟩ := Rd.onfrom h hr
  rw [cells_drop cI_len] at rd2
  refine ⟨_, y1, y, s2, rfl, p1, e1, ?_, y2, p2, ow2, ?_⟩
  · unfold FI; rw [hlk]; exact f1
  · unfold RI; rw [List.length_drop]; exact rd2

theorem rinsert_run (d : Nat) (wf : s.wf) (h : RI s x l) (hox : ∀ c, own x = some c → c < s.size) (hl : l.length ≤ 8000) (a : Inf) : ∃ y t, R (d + 1) 63 [Z x, AI a] s = some (Z y, t) ∧ FI s t y (insL l a) := by
  rw [f63_run]
  unfold f63
  have ll := h.lens
  obtain ⟨n, hn⟩ : ∃ n, n = s.size := ⟨_, rfl⟩
  obtain ⟨s1, hs1⟩ : ∃ s1, s1 = s.push (.cells true (cI a)) := ⟨_, rfl⟩
  have nw1 : aNew s (nBox (AI a)) = some (Z (.ptr n 0), s1) := by rw [hs1, hn]; rfl
  have g1 : Gr s s1 := by rw [hs1]; exact Gr.push wf _
  have b1 : s1.get n = some (.cells true (cI a)) := by rw [hs1, hn]; exact St.get_push_same _ _
  have h1 : RI s1 x l := h.gr hox g1
  have ai : aLoad1 (Z (.ptr n 0)) s1.get = some (I .i64 a.i) := aLoad1_of b1 rfl
  obtain ⟨j, τ, lp, rfl, rfl⟩ := loops_inv (f := f63_l1 (R d) 8192)
    (fun q v u => ∃ k : Nat, q + k = l.length ∧ v = [Z x, Z (.ptr n 0), I .i64 ((k : Nat) : Int)] ∧ u = s1 ∧ ∀ (b : Nat) (z : Inf), b < k → l[b]? = some z → lowI a.i z = true)
    (fun j u => j = .exit 0 [Z x, Z (.ptr n 0), I .i64 ((kOf l a.i : Nat) : Int)] ∧ u = s1) (by
    rintro q v u ⟨k, hk, rfl, rfl, hf⟩
    by_cases hkl : k < l.length
    · have hg : l[k]? = some l[k] := List.getElem?_eq_getElem hkl
      obtain ⟨z, hz⟩ : ∃ z, z = l[k] := ⟨_, rfl⟩
      rw [← hz] at hg
      obtain ⟨c, p, ix, l0, _⟩ := h1.atI (n := ((k : Nat) : Int)) rfl hg
      have fa0 : aFieldAddr 0 (Z (.ptr c p)) = some (Z (.ptr c (p + 0))) := rfl
      have c0 : ((k : Nat) : Int) < ((l.length : Nat) : Int) := by omega
      have w1 : IntKind.i64.wrap ((k : Int) + 1) = ((k + 1 : Nat) : Int) := by rw [wrap_in _ (by omega) (by omega)]; omega
      by_cases hi : z.i < a.i
      · left
        refine ⟨[Z x, Z (.ptr n 0), I .i64 ((k + 1 : Nat) : Int)], u, q - 1, ?_, by omega, k + 1, by omega, rfl, rfl, fun b w hb hw => ?_⟩
        · unfold f63_l1
          generalize ((k + 1 : Nat) : Int) = N1 at *
          generalize ((k : Nat) : Int) = N0 at *
          generalize ((l.length : Nat) : Int) = LL at *
          generalize p + 0 = p0 at *
          simp [ll, c0, ix, fa0, l0, ai, hi, w1]
        · by_cases e : b = k
          · subst e; rw [hg] at hw; cases hw; exact decide_eq_true hi
          · exact hf b w (by omega) hw
      · right
        have hko : kOf l a.i = k := tw_len l k (by omega) hf (fun w hw => by rw [hg] at hw; cases hw; exact decide_eq_false hi)
        refine ⟨_, u, ?_, (fun v hv => by cases hv), rfl, rfl⟩
        rw [hko]
        unfold f63_l1
        generalize ((k : Nat) : Int) = N0 at *
        generalize ((l.length : Nat) : Int) = LL at *
        generalize p + 0 = p0 at *
        simp [ll, c0, ix, fa0, l0, ai, hi]
    · right
      have hkk : k = l.length := by omega
      subst hkk
      have hko : kOf l a.i = l.length := tw_len l _ (Nat.le_refl _) hf (fun w hw => by have := (List.getElem?_eq_some_iff.1 hw).1; omega)
      refine ⟨_, u, ?_, (fun v hv => by cases hv), rfl, rfl⟩
      rw [hko]
      unfold f63_l1
      simp [ll]) 8192 l.length [Z x, Z (.ptr n 0), I .i64 0] s1 ⟨0, by omega, rfl, rfl, fun b z hb => by omega⟩ (by omega)
  have ho1 : ∀ c, own x = some c → c < τ.size := fun c hc => Nat.lt_of_lt_of_le (hox c hc) g1.2.1
  have hkl := kOf_le l a.i
  obtain ⟨u1, y1, y, u2, n1, p1, e1, f1, y2, p2, ow2, rd2⟩ := split3 g1.wf h1 ho1 hl hkl hkl
  have b2 : u2.get n = some (.cells true (cI a)) := f1.gr.get b1 g1.wf
  have la : aLoadN 5 (Z (.ptr n 0)) u2.get = some (AI a) := by
    simp only [aLoadN, b2]
    rw [if_pos (by simp [cI])]
    rfl
  have L := Fr.lit 5 f1.gr.wf (n := 1) (vs := cells cI [a]) (by simp [cI])
  obtain ⟨u3, hu3⟩ : ∃ u3, u3 = u2.push (.cells true (cells cI [a])) := ⟨_, rfl⟩
  rw [← hu3] at L
  have n3 : aNew u2 (nSlice 1 (aFill [.int .i64 0, .int .i64 0, .int .i64 0, .int .i64 0, .int .u32 0] [(0, 5, AI a)])) = some (Z (.sl u2.size 0 1 (.known 1)), u3) := by rw [hu3]; rfl
  obtain ⟨y4, u4, e4, f4, _⟩ := (f1.gr' L.gr).append (by_ := 40) (by omega) L.rd.src (by simp [cI]) (by simp; omega)
  have o2 : ∀ c, own y2 = some c → c < τ.size := fun c hc => by
    rcases ow2 with e | e
    · rw [e] at hc; cases hc
    · rw [e] at hc; exact ho1 c hc
  have rd4 : RI u4 y2 (l.drop (kOf l a.i)) := rd2.gr o2 f4.gr
  have hdl : (l.drop (kOf l a.i)).length = l.length - kOf l a.i := by simp
  have htl : (l.take (kOf l a.i)).length = kOf l a.i := by rw [List.length_take]; omega
  obtain ⟨y5, u5, e5, f5, _⟩ := f4.append (by_ := 40) (by omega) rd4.src (cells_len (e := 5) cI_len _) (by omega)
  refine ⟨y5, u5, ?_, ?_⟩
  · generalize ((kOf l a.i : Nat) : Int) = K at *
    generalize τ.size = zt at *
    generalize u2.size = z2 at *
    simp [nw1, lp, n1, p1, e1, la, n3, e4, p2, e5]
  · have hc : cells cI (insL l a) = cells cI (l.take (kOf l a.i)) ++ cells cI [a] ++ cells cI (l.drop (kOf l a.i)) := by simp [insL, cells]
    have hn' : (insL l a).length = (l.take (kOf l a.i)).length + 1 + (l.drop (kOf l a.i)).length := by simp [insL]; omega
    unfold FI
    rw [hc, hn']
    exact f5.from g1

theorem neI (a b : Inf) : neB (.a 5 [(0, .i), (1, .i), (2, .i), (3, .i), (4, .i)]) (AI a) (AI b) = some (B (!decide (a = b))) := by
  have h : aEq (.a 5 [(0, .i), (1, .i), (2, .i), (3, .i), (4, .i)]) (AI a) (AI b) = some (decide (a = b)) := by
    obtain ⟨a1, a2, a3, a4, a5⟩ := a
    obtain ⟨b1, b2, b3, b4, b5⟩ := b
    show some (decide (a1 = b1) && (decide (a2 = b2) && (decide (a3 = b3) && (decide (a4 = b4) && (decide (a5 = b5) && true))))) = some (decide (Inf.mk a1 a2 a3 a4 a5 = Inf.mk b1 b2 b3 b4 b5))
    simp only [Inf.mk.injEq, Bool.and_true, Bool.decide_and]
  simp only [neB, h]

theorem same_take {n : Nat} (h : l.take n = m.take n) {a b : Inf} (ha : l[n]? = some a) (hb : m[n]? = some b) (e : a = b) : l.take (n + 1) = m.take (n + 1) := by
  rw [List.take_add_one, List.take_add_one, h, ha, hb, e]

theorem rsameI_run (d : Nat) (h : RI s x l) (k : RI s y m) (hl : l.length ≤ 8000) : R (d + 1) 37 [Z x, Z y] s = some (B (decide (l = m)), s) := by
  rw [f37_run]
  unfold f37
  have ll := h.lens
  have lm := k.lens
  by_cases hlen : l.length = m.length
  · have c1 : ((l.length : Nat) : Int) = ((m.length : Nat) : Int) := by omega
    obtain ⟨j, τ, lp, hj, rfl⟩ := loops_inv (f := f37_l1 (R d) 8192)
      (fun q v u => ∃ n : Nat, q + n = l.length ∧ v = [Z x, Z y, I .i64 ((n : Nat) : Int)] ∧ u = s ∧ l.take n = m.take n)
      (fun j u => (j = .exit 0 [] ∧ l = m ∨ j = .ret (B false) ∧ l ≠ m) ∧ u = s) (by
      rintro q v u ⟨n, hn, rfl, rfl, hf⟩
      by_cases hnl : n < l.length
      · have hg : l[n]? = some l[n] := List.getElem?_eq_getElem hnl
        have hg2 : m[n]? = some m[n] := List.getElem?_eq_getElem (by omega)
        obtain ⟨a, ha⟩ : ∃ a, a = l[n] := ⟨_, rfl⟩
        obtain ⟨b, hb⟩ : ∃ b, b = m[n] := ⟨_, rfl⟩
        rw [← ha] at hg
        rw [← hb] at hg2
        obtain ⟨c, p, ix, _, ld⟩ := h.atI (n := ((n : Nat) : Int)) rfl hg
        obtain ⟨c', p', ix', _, ld'⟩ := k.atI (n := ((n : Nat) : Int)) rfl hg2
        have ne := neI a b
        have c0 : ((n : Nat) : Int) < ((l.length : Nat) : Int) := by omega
        have w1 : IntKind.i64.wrap ((n : Int) + 1) = ((n + 1 : Nat) : Int) := by rw [wrap_in _ (by omega) (by omega)]; omega
        by_cases e : a = b
        · left
          rw [decide_eq_true e] at ne
          refine ⟨[Z x, Z y, I .i64 ((n + 1 : Nat) : Int)], u, q - 1, ?_, by omega, n + 1, by omega, rfl, rfl, same_take hf hg hg2 e⟩
          unfold f37_l1
          generalize ((n + 1 : Nat) : Int) = N1 at *
          generalize ((n : Nat) : Int) = N0 at *
          generalize ((l.length : Nat) : Int) = LL at *
          simp [ll, c0, ix, ld, ix', ld', ne, w1]
        · right
          rw [decide_eq_false e] at ne
          refine ⟨.ret (B false), u, ?_, (fun v hv => by cases hv), .inr ⟨rfl, fun hh => e (by rw [hh] at hg; rw [hg] at hg2; cases hg2; rfl)⟩, rfl⟩
          unfold f37_l1
          generalize ((n : Nat) : Int) = N0 at *
          generalize ((l.length : Nat) : Int) = LL at *
          simp [ll, c0, ix, ld, ix', ld', ne]
      · right
        have hnn : n = l.length := by omega
        subst hnn
        rw [List.take_length, hlen, List.take_length] at hf
        refine ⟨.exit 0 [], u, ?_, (fun v hv => by cases hv), .inl ⟨rfl, hf⟩, rfl⟩
        unfold f37_l1
        simp [ll]) 8192 l.length [Z x, Z y, I .i64 0] s ⟨0, by omega, rfl, rfl, by simp⟩ (by omega)
    rcases hj with ⟨rfl, hf⟩ | ⟨rfl, hf⟩
    · rw [decide_eq_true hf]
      simp [ll, lm, c1, lp]
    · rw [decide_eq_false hf]
      simp [ll, lm, c1, lp]
  · have c1 : ¬ ((l.length : Nat) : Int) = ((m.length : Nat) : Int) := by omega
    rw [decide_eq_false (fun h => hlen (by rw [h]))]
    simp [ll, lm, c1]

theorem eqSl_run (d : Nat) (h : RI s x l) (k : RI s y m) (hl : l.length ≤ 8000) : R (d + 1) 65 [Z x, Z y] s = some (B (decide (l = m)), s) := by
  rw [f65_run]
  unfold f65
  have ll := h.lens
  have lm := k.lens
  by_cases hlen : l.length = m.length
  · have c1 : ((l.length : Nat) : Int) = ((m.length : Nat) : Int) := by omega
    obtain ⟨j, τ, lp, hj, rfl⟩ := loops_inv (f := f65_l1 (R d) 8192)
      (fun q v u => ∃ n : Nat, q + n = l.length ∧ v = [Z x, Z y, I .i64 ((l.length : Nat) : Int), I .i64 ((n : Nat) : Int)] ∧ u = s ∧ l.take n = m.take n)
      (fun j u => (j = .exit 0 [] ∧ l = m ∨ j = .ret (B false) ∧ l ≠ m) ∧ u = s) (by
      rintro q v u ⟨n, hn, rfl, rfl, hf⟩
      by_cases hnl : n < l.length
      · have hg : l[n]? = some l[n] := List.getElem?_eq_getElem hnl
        have hg2 : m[n]? = some m[n] := List.getElem?_eq_getElem (by omega)
        obtain ⟨a, ha⟩ : ∃ a, a = l[n] := ⟨_, rfl⟩
        obtain ⟨b, hb⟩ : ∃ b, b = m[n] := ⟨_, rfl⟩
        rw [← ha] at hg
        rw [← hb] at hg2
        obtain ⟨c, p, ix, _, ld⟩ := h.atI (n := ((n : Nat) : Int)) rfl hg
        obtain ⟨c', p', ix', _, ld'⟩ := k.atI (n := ((n : Nat) : Int)) rfl hg2
        have ne := neI a b
        have c0 : ((n : Nat) : Int) < ((l.length : Nat) : Int) := by omega
        have w1 : IntKind.i64.wrap ((n : Int) + 1) = ((n + 1 : Nat) : Int) := by rw [wrap_in _ (by omega) (by omega)]; omega
        by_cases e : a = b
        · left
          rw [decide_eq_true e] at ne
          refine ⟨[Z x, Z y, I .i64 ((l.length : Nat) : Int), I .i64 ((n + 1 : Nat) : Int)], u, q - 1, ?_, by omega, n + 1, by omega, rfl, rfl, same_take hf hg hg2 e⟩
          unfold f65_l1
          generalize ((n + 1 : Nat) : Int) = N1 at *
          generalize ((n : Nat) : Int) = N0 at *
          generalize ((l.length : Nat) : Int) = LL at *
          simp [ll, c0, ix, ld, ix', ld', ne, w1]
        · right
          rw [decide_eq_false e] at ne
          refine ⟨.ret (B false), u, ?_, (fun v hv => by cases hv), .inr ⟨rfl, fun hh => e (by rw [hh] at hg; rw [hg] at hg2; cases hg2; rfl)⟩, rfl⟩
          unfold f65_l1
          generalize ((n : Nat) : Int) = N0 at *
          generalize ((l.length : Nat) : Int) = LL at *
          simp [ll, c0, ix, ld, ix', ld', ne]
      · right
        have hnn : n = l.length := by omega
        subst hnn
        rw [List.take_length, hlen, List.take_length] at hf
        have c0 : ¬ ((l.length : Nat) : Int) < ((l.length : Nat) : Int) := by omega
        refine ⟨.exit 0 [], u, ?_, (fun v hv => by cases hv), .inl ⟨rfl, hf⟩, rfl⟩
        unfold f65_l1
        simp [c0]) 8192 l.length [Z x, Z y, I .i64 ((l.length : Nat) : Int), I .i64 0] s ⟨0, by omega, rfl, rfl, by simp⟩ (by omega)
    rcases hj with ⟨rfl, hf⟩ | ⟨rfl, hf⟩
    · rw [decide_eq_true hf]
      generalize ((l.length : Nat) : Int) = LL at *
      generalize ((m.length : Nat) : Int) = LM at *
      subst c1
      simp [ll, lm, lp]
    · rw [decide_eq_false hf]
      generalize ((l.length : Nat) : Int) = LL at *
      generalize ((m.length : Nat) : Int) = LM at *
      subst c1
      simp [ll, lm, lp]
  · have c1 : ¬ ((l.length : Nat) : Int) = ((m.length : Nat) : Int) := by omega
    rw [decide_eq_false (fun h => hlen (by rw [h]))]
    simp [ll, lm, c1]

theorem sameInfo_run (d : Nat) (h : RI s x l) (k : RI s y m) (hl : l.length ≤ 8000) : R (d + 2) 36 [Z x, Z y] s = some (B (decide (l = m)), s) := by
  rw [f36_run]
  unfold f36
  have e := eqSl_run d h k hl
  generalize R (d + 1) = r at *
  simp [e]
end
end Go.Proofs.YtlhbidbdmdcdeaaGreatDoor

/-
  The document's own reader of policies: its numbers, names, words. No conditions but those named in each line.
-/
namespace Go.Proofs.YtlhbidbdmdcdeaaGreatDoor
open Go Go.Abs Go.Abs.F
set_option linter.unusedVariables false
section
variable {s t : St} {x y : S} {l : Bs} {i : Nat}

def rnumV (l : Bs) : Int := if numOk l = true then (numV l : Nat) else -1

theorem valD_take {l : Bs} {k : Nat} (hk : k < l.length) : valD (l.take (k + 1)) = valD (l.take k) * 10 + (l[k].toNat - 48) := by
  rw [List.take_add_one, List.getElem?_eq_getElem hk, Option.toList_some, valD_snoc]

theorem all_take_dig {l : Bs} {k : Nat} (hk : k < l.length) (h : (l.take k).all isDig = true) (hd : isDig l[k] = true) : (l.take (k + 1)).all isDig = true := by
  rw [List.take_add_one, List.getElem?_eq_getElem hk, Option.toList_some, List.all_append, h]
  simp [hd]

theorem not_all_dig {l : Bs} {k : Nat} (hk : k < l.length) (hd : isDig l[k] = false) : l.all isDig = false := by
  rw [Bool.eq_false_iff]
  intro h
  rw [List.all_eq_true] at h
  rw [h _ (List.getElem_mem hk)] at hd
  cases hd

theorem rnumber_run (d : Nat) : R (d + 1) 99 [Z (.str l)] s = some (I .i64 (rnumV l), s) := by
  rw [f99_run]
  unfold f99
  by_cases h1 : l.length < 1
  · have hn : rnumV l = -1 := by unfold rnumV numOk; rw [if_neg]; simp; omega
    have c1 : ((l.length : Nat) : Int) < 1 := by omega
    have hl : aLenStr (Z (.str l)) = some (I .i64 ((l.length : Nat) : Int)) := rfl
    rw [hn]
    generalize ((l.length : Nat) : Int) = L at *
    simp [hl, c1, gtt]
  · by_cases h2 : 13 < l.length
    · have hn : rnumV l = -1 := by unfold rnumV numOk; rw [if_neg]; simp; omega
      have c1 : ¬ ((l.length : Nat) : Int) < 1 := by omega
      have c2 : (13 : Int) < ((l.length : Nat) : Int) := by omega
      rw [hn]
      have hl : aLenStr (Z (.str l)) = some (I .i64 ((l.length : Nat) : Int)) := rfl
      generalize ((l.length : Nat) : Int) = L at *
      simp [hl, c1, c2]
    · have c1 : ¬ ((l.length : Nat) : Int) < 1 := by omega
      have c2 : ¬ (13 : Int) < ((l.length : Nat) : Int) := by omega
      have hl : aLenStr (Z (.str l)) = some (I .i64 ((l.length : Nat) : Int)) := rfl
      obtain ⟨j, τ, lp, hj, hτ⟩ := loops_inv (f := f99_l1 (R d) 8192) (fun q v u => ∃ k : Nat, q + k = l.length ∧ v = [Z (.str l), I .i64 ((valD (l.take k) : Nat) : Int), I .i64 (k : Nat)] ∧ u = s ∧ (l.take k).all isDig = true)
        (fun j u => (j = .exit 0 [I .i64 (rnumV l)] ∨ j = .ret (I .i64 (rnumV l))) ∧ u = s) (by
        rintro q v u ⟨k, hk, rfl, rfl, ha⟩
        by_cases hkl : k < l.length
        · have c0 : ((k : Nat) : Int) < ((l.length : Nat) : Int) := by omega
          have ac := at_str (bs := l) (n := ((k : Nat) : Int)) rfl (List.getElem?_eq_getElem hkl)
          have hcl := l[k].toNat_lt
          cases hd : isDig l[k] with
          | true =>
            left
            have hr := isDig_iff.1 hd
            have hv := valD_lt k (l.take k) (by rw [List.length_take]; omega) ha
            have h13 : 10 ^ k ≤ 10 ^ 13 := Nat.pow_le_pow_right (by omega) (by omega)
            have h13' : (10 : Nat) ^ 13 = 10000000000000 := by decide
            have d1 : ¬ ((l[k].toNat : Nat) : Int) < 48 := by omega
            have d2 : ¬ (57 : Int) < ((l[k].toNat : Nat) : Int) := by omega
            have w1 : IntKind.i64.wrap (((valD (l.take k) : Nat) : Int) * 10) = ((valD (l.take k) * 10 : Nat) : Int) := by rw [wrap_in _ (by omega) (by omega)]; omega
            have w2 : IntKind.u8.wrap (((l[k].toNat : Nat) : Int) - 48) = ((l[k].toNat - 48 : Nat) : Int) := by
              have : ((l[k].toNat : Nat) : Int) - 48 = ((l[k].toNat - 48 : Nat) : Int) := by omega
              rw [this, wrap8, Nat.mod_eq_of_lt (by omega)]
            have w3 : IntKind.i64.wrap ((l[k].toNat - 48 : Nat) : Int) = ((l[k].toNat - 48 : Nat) : Int) := wrapi _ (by omega)
            have w4 : IntKind.i64.wrap (((valD (l.take k) * 10 : Nat) : Int) + ((l[k].toNat - 48 : Nat) : Int)) = ((valD (l.take (k + 1)) : Nat) : Int) := by
              rw [valD_take hkl, wrap_in _ (by omega) (by omega)]; omega
            have w5 : IntKind.i64.wrap ((k : Int) + 1) = ((k + 1 : Nat) : Int) := by rw [wrap_in _ (by omega) (by omega)]; omega
            refine ⟨[Z (.str l), I .i64 ((valD (l.take (k + 1)) : Nat) : Int), I .i64 ((k + 1 : Nat) : Int)], u, q - 1, ?_, by omega, k + 1, by omega, rfl, rfl, all_take_dig hkl ha hd⟩
            unfold f99_l1
            generalize ((valD (l.take (k + 1)) : Nat) : Int) = V1 at *
            generalize ((valD (l.take k) * 10 : Nat) : Int) = V10 at *
            generalize ((valD (l.take k) : Nat) : Int) = V at *
            generalize ((l[k].toNat - 48 : Nat) : Int) = C48 at *
            generalize ((l[k].toNat : Nat) : Int) = C at *
            generalize ((l.length : Nat) : Int) = L at *
            generalize ((k + 1 : Nat) : Int) = K1 at *
            generalize ((k : Nat) : Int) = K at *
            simp [hl, c0, ac, d1, d2, w1, w2, w3, w4, w5]
          | false =>
            right
            have hn : rnumV l = -1 := by
              unfold rnumV numOk
              rw [not_all_dig hkl hd]
              simp
            refine ⟨.ret (I .i64 (rnumV l)), u, ?_, (fun v hv => by cases hv), .inr rfl, rfl⟩
            rw [hn]
            have hr : ((l[k].toNat : Nat) : Int) < 48 ∨ (¬ ((l[k].toNat : Nat) : Int) < 48 ∧ (57 : Int) < ((l[k].toNat : Nat) : Int)) := by
              have : ¬ (48 ≤ l[k].toNat ∧ l[k].toNat ≤ 57) := fun h => by rw [isDig_iff.2 h] at hd; cases hd
              omega
            unfold f99_l1
            generalize ((valD (l.take k) : Nat) : Int) = V at *
            generalize ((l[k].toNat : Nat) : Int) = C at *
            generalize ((l.length : Nat) : Int) = L at *
            generalize ((k : Nat) : Int) = K at *
            rcases hr with h | ⟨h, h'⟩
            · simp [hl, c0, ac, h, gtt]
            · simp [hl, c0, ac, h, h']
        · right
          have hk' : k = l.length := by omega
          have hn : rnumV l = ((valD l : Nat) : Int) := by
            rw [hk', List.take_length] at ha
            have hok : numOk l = true := by unfold numOk; rw [ha]; simp; omega
            unfold rnumV numV
            rw [if_pos hok, hok]
          have c0 : ¬ ((k : Nat) : Int) < ((l.length : Nat) : Int) := by omega
          refine ⟨.exit 0 [I .i64 (rnumV l)], u, ?_, (fun v hv => by cases hv), .inl rfl, rfl⟩
          rw [hn, hk', List.take_length]
          unfold f99_l1
          simp [hl]) 8192 l.length [Z (.str l), I .i64 0, I .i64 0] s ⟨0, rfl, rfl, rfl, by simp⟩ (by omega)
      subst hτ
      generalize ((l.length : Nat) : Int) = L at *
      rcases hj with rfl | rfl
      · simp [hl, c1, c2, lp]
      · simp [hl, c1, c2, lp]

theorem rnames_run (d : Nat) (wf : s.wf) : ∃ x t, R (d + 1) 100 [] s = some (Z x, t) ∧ FT s t x tNames := by
  rw [f100_run]
  unfold f100
  refine ⟨.sl s.size 0 4 (.known 4), s.push (.cells true (strS tNames)), ?_, Fr.lit 1 wf rfl⟩
  simp [aNew, nSlice, aFill, V.cells, setRange, strS, tNames]

/-- Words, one byte after the other. -/
def flush (cur : Bs) (r : List Bs) : List Bs := if cur = [] then r else cur :: r
def wordsR : Bs → Bs → List Bs
  | [], cur => flush cur []
  | b :: r, cur => if b = 35 then flush cur [] else if b = 32 then flush cur (wordsR r []) else wordsR r (cur ++ [b])

theorem wordsR_eq : ∀ (x cur : Bs), wordsR x cur = (match splitB 32 (x.takeWhile fun b => !Nat.beq b.toNat (35 : UInt8).toNat) with | [] => [] | h :: t => ((cur ++ h) :: t).filter fun w => !decide (w = []))
  | [], cur => by
    simp [wordsR, splitB, flush]
    by_cases h : cur = [] <;> simp [h]
  | b :: r, cur => by
    unfold wordsR
    by_cases h35 : b = 35
    · subst h35
      simp [splitB, flush, List.takeWhile]
      by_cases h : cur = [] <;> simp [h]
    · have hb : (!Nat.beq b.toNat (35 : UInt8).toNat) = true := by
        simp only [Bool.not_eq_true']
        rw [Bool.eq_false_iff]
        exact fun h => h35 (beq_byte.1 h)
      have htw : (b :: r).takeWhile (fun b => !Nat.beq b.toNat (35 : UInt8).toNat) = b :: r.takeWhile (fun b => !Nat.beq b.toNat (35 : UInt8).toNat) := by
        rw [List.takeWhile_cons, if_pos hb]
      rw [if_neg h35, htw, splitB_cons]
      by_cases h32 : b = 32
      · rw [if_pos h32, wordsR_eq r []]
        have : Nat.beq b.toNat (32 : UInt8).toNat = true := beq_byte.2 h32
        rw [this]
        simp only
        cases hs : splitB 32 (r.takeWhile fun b => !Nat.beq b.toNat (35 : UInt8).toNat) with
        | nil =>
          have := splitB_len 32 (r.takeWhile fun b => !Nat.beq b.toNat (35 : UInt8).toNat)
          rw [hs] at this
          simp at this
        | cons h t =>
          simp only [List.append_nil, List.nil_append, flush]
          by_cases hc : cur = []
          · simp [hc]
          · simp [hc]
      · have : Nat.beq b.toNat (32 : UInt8).toNat = false := by
          rw [Bool.eq_false_iff]
          exact fun h => h32 (beq_byte.1 h)
        rw [if_neg h32, this, wordsR_eq r (cur ++ [b])]
        simp only
        cases hs : splitB 32 (r.takeWhile fun b => !Nat.beq b.toNat (35 : UInt8).toNat) with
        | nil =>
          have := splitB_len 32 (r.takeWhile fun b => !Nat.beq b.toNat (35 : UInt8).toNat)
          rw [hs] at this
          simp at this
        | cons h t => simp [consHd]

theorem wordsR_of (x : Bs) : wordsR x [] = wordsOf x := by
  rw [wordsR_eq, wordsOf]
  cases hs : splitB 32 (x.takeWhile fun b => !Nat.beq b.toNat (35 : UInt8).toNat) with
  | nil => rfl
  | cons h t => simp
end
end Go.Proofs.YtlhbidbdmdcdeaaGreatDoor

/-
  The document's own reader of policies: a line's words, as it runs. No conditions but those named in each line.
-/
namespace Go.Proofs.YtlhbidbdmdcdeaaGreatDoor
open Go Go.Abs Go.Abs.F
set_option linter.unusedVariables false
section
variable {s t : St} {x y : S} {l : Bs} {i : Nat}

theorem FT_lit {s0 : St} {ws : List Bs} {c : Bs} (h : FT s0 s x ws) (hl : ws.length ≤ 1000000) :
    ∃ x' t s', aNew s (nSlice 1 (aFill [.str []] [(0, 1, Z (.str c))])) = some (Z (.sl s.size 0 1 (.known 1)), s') ∧ aAppend 1 16 (Z x) (Z (.sl s.size 0 1 (.known 1))) s' = some (Z x', t) ∧ FT s0 t x' (ws ++ [c]) := by
  obtain ⟨x', t, ⟨s', e1, e2⟩, f, _⟩ := FT.lit (c := c) h hl
  exact ⟨x', t, s', e1, e2, f⟩

theorem piece_str {l : Bs} {a b : Nat} (h : a ≤ b) (k : b ≤ l.length) : aPieceStr (Z (.str l)) (some (I .i64 (a : Nat))) (some (I .i64 (b : Nat))) none = some (Z (.str ((l.take b).drop a))) := by
  rw [aPieceStr_lh rfl rfl h k, List.drop_take]

theorem gff : gd (B false) false = some true := rfl
theorem gtf : gd (B true) false = some false := rfl

theorem rwords_run (d : Nat) (wf : s.wf) (hl : l.length ≤ 8000) : ∃ o t, R (d + 1) 83 [Z (.str l)] s = some (Z o, t) ∧ FT s t o (wordsOf l) := by
  rw [f83_run]
  unfold f83
  have hll : aLenStr (Z (.str l)) = some (I .i64 ((l.length : Nat) : Int)) := rfl
  obtain ⟨j, τ, lp, o, hj, f⟩ := loops_inv (f := f83_l1 (R d) 8192) (fun q v u => ∃ (k a : Nat) (o : S) (ws : List Bs), q + k = l.length + 1 ∧ a ≤ k ∧ k ≤ l.length ∧ v = [Z (.str l), Z o, I .i64 (a : Nat), I .i64 (k : Nat)] ∧ FT s u o ws ∧ ws.length ≤ k ∧ ws ++ wordsR (l.drop k) ((l.take k).drop a) = wordsOf l)
    (fun j u => ∃ o, j = .exit 0 [Z o] ∧ FT s u o (wordsOf l)) (by
    rintro q v u ⟨k, a, o, ws, hq, hak, hkl, rfl, f, hwl, hw⟩
    have c0 : ((k : Nat) : Int) ≤ ((l.length : Nat) : Int) := by omega
    have pc := piece_str hak hkl
    have cur0 : (l.take k).drop a = [] ↔ a = k := by
      rw [List.drop_eq_nil_iff, List.length_take]
      omega
    -- what an end of a word does
    have fl : ∀ e : Bool, ∃ o' u', (jn (br (B (decide (((a : Nat) : Int) < ((k : Nat) : Int)))) (bd (aPieceStr (Z (.str l)) (some (I .i64 (a : Nat))) (some (I .i64 (k : Nat))) none) fun t37 =>
          bd2 (aNew u (nSlice 1 (aFill [.str []] [(0, 1, t37)]))) fun t38 s1 =>
          bd2 (aAppend 1 16 (Z o) t38 s1) fun t39 s2 => some (JO.normal [Z (.str l), t39, I .i64 (k : Nat), B e], s2))
          (some (JO.normal [Z (.str l), Z o, I .i64 (k : Nat), B e], u)) : Option (JO × St))
          (fun v3 s4 => bd (aBin .add (v3.getD 2 .any) (I .i64 1)) fun t41 => some (JO.normal [(v3.getD 0 .any), (v3.getD 1 .any), t41, (v3.getD 2 .any), (v3.getD 3 .any)], s4))
          (fun i5 v3 s4 => some (JO.exit i5 v3, s4)) (fun r6 s4 => some (JO.ret r6, s4))) = some (JO.normal [Z (.str l), Z o', I .i64 ((k + 1 : Nat) : Int), I .i64 (k : Nat), B e], u') ∧ FT s u' o' (ws ++ flush ((l.take k).drop a) []) := fun e => by
      have w1 : IntKind.i64.wrap ((k : Int) + 1) = ((k + 1 : Nat) : Int) := by rw [wrap_in _ (by omega) (by omega)]; omega
      by_cases hc : a < k
      · obtain ⟨o', u', u1, n1, p1, f'⟩ := FT_lit (c := (l.take k).drop a) f (by omega)
        have c1 : ((a : Nat) : Int) < ((k : Nat) : Int) := by omega
        refine ⟨o', u', ?_, by unfold flush; rw [if_neg (fun h => by have := cur0.1 h; omega)]; exact f'⟩
        generalize ((k + 1 : Nat) : Int) = K1 at *
        simp only [decide_eq_true c1, br_true, pc, bd_some, n1, bd2_some, p1, jn_normal, List.getD_cons_zero, List.getD_cons_succ, add_int, w1]
      · have c1 : ¬ ((a : Nat) : Int) < ((k : Nat) : Int) := by omega
        refine ⟨o, u, ?_, by unfold flush; rw [if_pos (cur0.2 (by omega)), List.append_nil]; exact f⟩
        generalize ((k + 1 : Nat) : Int) = K1 at *
        simp only [decide_eq_false c1, br_false, bd_some, jn_normal, List.getD_cons_zero, List.getD_cons_succ, add_int, w1]
    by_cases hend : k = l.length
    · obtain ⟨o', u', e1, f'⟩ := fl true
      right
      refine ⟨.exit 0 [Z o'], u', ?_, (fun v hv => by cases hv), o', rfl, ?_⟩
      · have c2 : ((k : Nat) : Int) = ((l.length : Nat) : Int) := by omega
        unfold f83_l1
        rw [← c2] at hll c0
        simp only [List.getD_cons_zero, List.getD_cons_succ, hll, bd_some, leq_int, Int.le_refl, decide_true, br_true, eql_int, gtt, gT_false, aPick_bool_true, gtr_int, e1]
        simp
      · rw [hend, List.drop_length, wordsR] at hw
        rw [← hw]
        rw [hend] at f'
        exact f'
    · have hk : k < l.length := by omega
      have c2 : ¬ ((k : Nat) : Int) = ((l.length : Nat) : Int) := by omega
      have ac := at_str (bs := l) (n := ((k : Nat) : Int)) rfl (List.getElem?_eq_getElem hk)
      have hd : l.drop k = l[k] :: l.drop (k + 1) := List.drop_eq_getElem_cons hk
      have hb : ∀ c : UInt8, decide (((l[k].toNat : Nat) : Int) = ((c.toNat : Nat) : Int)) = decide (l[k] = c) := fun c => decide_eq_decide.2 ⟨fun h => UInt8.toNat.inj (by omega), fun h => by rw [h]⟩
      have h35 := hb 35
      have h32 := hb 32
      have w1 : IntKind.i64.wrap ((k : Int) + 1) = ((k + 1 : Nat) : Int) := by rw [wrap_in _ (by omega) (by omega)]; omega
      rw [hd] at hw
      unfold wordsR at hw
      by_cases e35 : l[k] = 35
      · rw [if_pos e35] at hw
        rw [decide_eq_true e35] at h35
        obtain ⟨o', u', e1, f'⟩ := fl true
        right
        refine ⟨.exit 0 [Z o'], u', ?_, (fun v hv => by cases hv), o', rfl, by rw [← hw]; exact f'⟩
        unfold f83_l1
        have h35' : decide (((l[k].toNat : Nat) : Int) = 35) = true := h35
        generalize ((l[k].toNat : Nat) : Int) = C at *
        simp only [List.getD_cons_zero, List.getD_cons_succ, hll, bd_some, leq_int, decide_eq_true c0, br_true, eql_int, decide_eq_false c2, gff, gtf, gT_true, gT_false, ac, h35', aPick_bool_false, aPick_bool_true, gtr_int, e1]
        simp
      · rw [if_neg e35] at hw
        rw [decide_eq_false e35] at h35
        have h35' : decide (((l[k].toNat : Nat) : Int) = 35) = false := h35
        have tk : (l.take (k + 1)).drop a = (l.take k).drop a ++ [l[k]] := by
          rw [List.take_add_one, List.getElem?_eq_getElem hk, Option.toList_some, List.drop_append_of_le_length (by rw [List.length_take]; omega)]
        by_cases e32 : l[k] = 32
        · rw [if_pos e32] at hw
          rw [decide_eq_true e32] at h32
          have h32' : decide (((l[k].toNat : Nat) : Int) = 32) = true := h32
          obtain ⟨o', u', e1, f'⟩ := fl false
          left
          refine ⟨[Z (.str l), Z o', I .i64 ((k + 1 : Nat) : Int), I .i64 ((k + 1 : Nat) : Int)], u', q - 1, ?_, by omega, k + 1, k + 1, o', ws ++ flush ((l.take k).drop a) [], by omega, Nat.le_refl _, by omega, rfl, f', ?_, ?_⟩
          · unfold f83_l1
            generalize ((l[k].toNat : Nat) : Int) = C at *
            generalize ((k + 1 : Nat) : Int) = K1 at *
            simp only [List.getD_cons_zero, List.getD_cons_succ, hll, bd_some, leq_int, decide_eq_true c0, br_true, eql_int, decide_eq_false c2, gff, gtf, gT_true, gT_false, ac, h35', h32', aPick_bool_false, aPick_bool_true, gtr_int, e1]
            simp [w1]
          · unfold flush
            split
            · simp; omega
            · simp; omega
          · have : (l.take (k + 1)).drop (k + 1) = [] := by rw [List.drop_eq_nil_iff, List.length_take]; omega
            rw [this, ← hw]
            unfold flush
            split <;> simp
        · rw [if_neg e32] at hw
          rw [decide_eq_false e32] at h32
          have h32' : decide (((l[k].toNat : Nat) : Int) = 32) = false := h32
          left
          refine ⟨[Z (.str l), Z o, I .i64 (a : Nat), I .i64 ((k + 1 : Nat) : Int)], u, q - 1, ?_, by omega, k + 1, a, o, ws, by omega, by omega, by omega, rfl, f, by omega, by rw [tk]; exact hw⟩
          unfold f83_l1
          generalize ((l[k].toNat : Nat) : Int) = C at *
          generalize ((k + 1 : Nat) : Int) = K1 at *
          simp only [List.getD_cons_zero, List.getD_cons_succ, hll, bd_some, leq_int, decide_eq_true c0, br_true, eql_int, decide_eq_false c2, gff, gtf, gT_true, gT_false, ac, h35', h32', aPick_bool_false, aPick_bool_true, gtr_int, br_false]
          simp [w1]) 8192 (l.length + 1) [Z (.str l), Z .nils, I .i64 0, I .i64 0] s ⟨0, 0, .nils, [], by omega, Nat.le_refl _, by omega, rfl, Fr.nil 1 wf, by simp, by simpa using wordsR_of l⟩ (by omega)
  subst hj
  exact ⟨o, τ, by simp [lp], f⟩
end
end Go.Proofs.YtlhbidbdmdcdeaaGreatDoor

/-
  The document's own May and Default of policies. No conditions but those named in each line.
-/
namespace Go.Proofs.YtlhbidbdmdcdeaaGreatDoor
open Go Go.Abs Go.Abs.F
set_option linter.unusedVariables false
section
variable {s t : St} {x y : S} {l : Bs} {i : Nat}

theorem rdefault_run (d : Nat) (wf : s.wf) : ∃ t, R (d + 1) 60 [] s = some (AP polD, t) ∧ Gr s t := by
  rw [f60_run]
  unfold f60
  have e1 : asAggT (aFill [.int .i64 0, .int .i64 0, .int .i64 0, .int .i64 0] [(0, 1, (I .i64 60)), (1, 1, (I .i64 600)), (2, 1, (I .i64 6000)), (3, 1, (I .i64 0))]) = some (.v (.agg [.int .i64 60, .int .i64 600, .int .i64 6000, .int .i64 0])) := rfl
  have e2 : asAggT (aFill [.int .i64 0, .int .i64 0, .int .i64 0, .int .i64 0, .int .i64 0, .int .i64 0] [(0, 4, .v (.agg [.int .i64 60, .int .i64 600, .int .i64 6000, .int .i64 0])), (4, 1, (I .i64 8)), (5, 1, (I .i64 30))]) = some (AP polD) := rfl
  obtain ⟨s1, hs1⟩ : ∃ s1, s1 = s.push (.cells true (cP pol0)) := ⟨_, rfl⟩
  have nw : aNew s (nCells [.int .i64 0, .int .i64 0, .int .i64 0, .int .i64 0, .int .i64 0, .int .i64 0]) = some (Z (.ptr s.size 0), s1) := by rw [hs1]; rfl
  have h1 : s1.get s.size = some (.cells true (cP pol0)) := by rw [hs1]; exact St.get_push_same _ _
  obtain ⟨s2, hs2⟩ : ∃ s2, s2 = s1.set s.size (.cells true (cP polD)) := ⟨_, rfl⟩
  have st := store6 (p := polD) h1 rfl
  rw [← hs2] at st
  have h2 : s2.get s.size = some (.cells true (cP polD)) := by rw [hs2]; exact St.get_set_same _ _ _
  have ld := load6 (g := s2.get) h2
  refine ⟨s2, ?_, ?_⟩
  · simp [nw, e1, e2, st, ld, rC, retT]
  · rw [hs2, hs1]
    exact ⟨St.wf_set (St.wf_push wf _) (by simp) _, by simp, fun b hb => by rw [St.get_set_ne _ _ (by omega), St.get_push_ne _ _ (by omega)]⟩

set_option maxHeartbeats 2000000 in
theorem rmay_run (d : Nat) (wf : s.wf) (p : Pol) : ∃ t, R (d + 1) 85 [AP p] s = some (B (mayP p), t) ∧ Gr s t := by
  rw [f85_run]
  unfold f85
  obtain ⟨s1, hs1⟩ : ∃ s1, s1 = s.push (.cells true (cP p)) := ⟨_, rfl⟩
  have nw : aNew s (nBox (AP p)) = some (Z (.ptr s.size 0), s1) := by rw [hs1]; rfl
  have h1 : s1.get s.size = some (.cells true (cP p)) := by rw [hs1]; exact St.get_push_same _ _
  have g : Gr s s1 := by rw [hs1]; exact Gr.push wf _
  have ld : ∀ j, j < 4 → aLoad1 (Z (.ptr s.size j)) s1.get = some (I .i64 (ageAt p j)) := fun j hj => by
    match j, hj with
    | 0, _ => exact aLoad1_of h1 rfl
    | 1, _ => exact aLoad1_of h1 rfl
    | 2, _ => exact aLoad1_of h1 rfl
    | 3, _ => exact aLoad1_of h1 rfl
  have ld4 : aLoad1 (Z (.ptr s.size 4)) s1.get = some (I .i64 p.c) := aLoad1_of h1 rfl
  have ld5 : aLoad1 (Z (.ptr s.size 5)) s1.get = some (I .i64 p.n) := aLoad1_of h1 rfl
  have ix : ∀ j : Nat, j < 4 → aIndexArr 4 1 (Z (.ptr s.size 0)) (I .i64 (j : Nat)) = some (Z (.ptr s.size j)) := fun j hj => by
    match j, hj with
    | 0, _ => rfl
    | 1, _ => rfl
    | 2, _ => rfl
    | 3, _ => rfl
  obtain ⟨j, τ, lp, hj, hτ⟩ := loops_inv (f := f85_l1 (R d) 8192) (fun q v u => ∃ k : Nat, q + k = 4 ∧ v = [Z (.ptr s.size 0), I .i64 k] ∧ u = s1 ∧ ∀ j, j < k → okAt p j = true)
    (fun j u => (j = .exit 0 [Z (.ptr s.size 0)] ∧ agesOk p = true ∨ j = .ret (B false) ∧ agesOk p = false) ∧ u = s1) (by
    rintro q v u ⟨k, hk, rfl, rfl, hok⟩
    by_cases hk4 : k < 4
    · have bad : okAt p k = false → agesOk p = false := fun h => by
        rw [Bool.eq_false_iff]
        intro h2
        rw [(agesOk_iff p).1 h2 k hk4] at h
        cases h
      have next : okAt p k = true → ∀ j, j < k + 1 → okAt p j = true := fun h j hj => by
        by_cases e : j = k
        · subst e; exact h
        · exact hok j (by omega)
      have c0 : (k : Int) < 4 := by omega
      have w1 : IntKind.i64.wrap ((k : Int) + 1) = ((k + 1 : Nat) : Int) := by rw [wrap_in _ (by omega) (by omega)]; omega
      have ixk := ix k hk4
      have ldk := ld k hk4
      obtain ⟨a, ha⟩ : ∃ a, a = ageAt p k := ⟨_, rfl⟩
      rw [← ha] at ldk
      have hage : okAt p k = (ageOk a && (decide (k = 0) || nxtOk (ageAt p (k - 1)) a)) := by
        rw [ha]
        match k, hk4 with
        | 0, _ => simp [okAt, ageAt]
        | 1, _ => simp [okAt, ageAt]
        | 2, _ => simp [okAt, ageAt]
        | 3, _ => simp [okAt, ageAt]
      have fa : aFieldAddr 0 (Z (.ptr s.size 0)) = some (Z (.ptr s.size 0)) := rfl
      by_cases c1 : a < 0
      · have h : okAt p k = false := by
          have : ¬ 0 ≤ a := by omega
          rw [hage]; simp [ageOk, this]
        refine .inr ⟨.ret (B false), u, ?_, (fun v hv => by cases hv), .inr ⟨rfl, bad h⟩, rfl⟩
        unfold f85_l1
        generalize (k : Int) = K at *
        simp [c0, fa, ixk, ldk, c1, gtt]
      · by_cases c2 : 1099511627776 < a
        · have h : okAt p k = false := by
            have : ¬ a ≤ 1099511627776 := by omega
            rw [hage]; simp [ageOk, this]
          refine .inr ⟨.ret (B false), u, ?_, (fun v hv => by cases hv), .inr ⟨rfl, bad h⟩, rfl⟩
          unfold f85_l1
          generalize (k : Int) = K at *
          simp [c0, fa, ixk, ldk, c1, c2, gtt]
        · have hA : ageOk a = true := by
            have h1 : 0 ≤ a := by omega
            have h2 : a ≤ 1099511627776 := by omega
            simp [ageOk, h1, h2]
          by_cases k0 : k = 0
          · have h : okAt p k = true := by rw [hage]; simp [hA, k0]
            have ck : ¬ (0 : Int) < (k : Int) := by omega
            refine .inl ⟨[Z (.ptr s.size 0), I .i64 ((k + 1 : Nat) : Int)], u, q - 1, ?_, by omega, k + 1, by omega, rfl, rfl, next h⟩
            unfold f85_l1
            generalize ((k + 1 : Nat) : Int) = K1 at *
            generalize (k : Int) = K at *
            simp [c0, fa, ixk, ldk, c1, c2, ck, w1, gtt]
          · obtain ⟨b, hb⟩ : ∃ b, b = ageAt p (k - 1) := ⟨_, rfl⟩
            rw [← hb] at hage
            have ck : (0 : Int) < (k : Int) := by omega
            have w2 : IntKind.i64.wrap ((k : Int) - 1) = ((k - 1 : Nat) : Int) := by rw [wrap_in _ (by omega) (by omega)]; omega
            have ix1 := ix (k - 1) (by omega)
            have ld1 := ld (k - 1) (by omega)
            rw [← hb] at ld1
            by_cases c3 : a = 0
            · have h : okAt p k = true := by rw [hage, hA]; simp [nxtOk, c3]
              refine .inl ⟨[Z (.ptr s.size 0), I .i64 ((k + 1 : Nat) : Int)], u, q - 1, ?_, by omega, k + 1, by omega, rfl, rfl, next h⟩
              unfold f85_l1
              subst c3
              generalize ((k + 1 : Nat) : Int) = K1 at *
              generalize ((k - 1 : Nat) : Int) = K0 at *
              generalize (k : Int) = K at *
              simp [c0, fa, ixk, ldk, ck, w1, gtt]
            · by_cases c4 : a < b
              · have h : okAt p k = false := by
                  have h1 : ¬ b ≤ a := by omega
                  rw [hage]; simp [hA, nxtOk, c3, h1, k0]
                refine .inr ⟨.ret (B false), u, ?_, (fun v hv => by cases hv), .inr ⟨rfl, bad h⟩, rfl⟩
                unfold f85_l1
                generalize ((k + 1 : Nat) : Int) = K1 at *
                generalize ((k - 1 : Nat) : Int) = K0 at *
                generalize (k : Int) = K at *
                simp [c0, fa, ixk, ldk, c1, c2, ck, w2, ix1, ld1, c3, c4, gtt]
              · by_cases c5 : b = 0
                · have h : okAt p k = false := by rw [hage]; simp [hA, nxtOk, c3, c5, k0]
                  refine .inr ⟨.ret (B false), u, ?_, (fun v hv => by cases hv), .inr ⟨rfl, bad h⟩, rfl⟩
                  unfold f85_l1
                  generalize ((k + 1 : Nat) : Int) = K1 at *
                  generalize ((k - 1 : Nat) : Int) = K0 at *
                  generalize (k : Int) = K at *
                  simp [c0, fa, ixk, ldk, c1, c2, ck, w2, ix1, ld1, c3, c4, c5, gtt]
                · have h : okAt p k = true := by
                    have h1 : b ≤ a := by omega
                    rw [hage]; simp [hA, nxtOk, h1, c5]
                  refine .inl ⟨[Z (.ptr s.size 0), I .i64 ((k + 1 : Nat) : Int)], u, q - 1, ?_, by omega, k + 1, by omega, rfl, rfl, next h⟩
                  unfold f85_l1
                  generalize ((k + 1 : Nat) : Int) = K1 at *
                  generalize ((k - 1 : Nat) : Int) = K0 at *
                  generalize (k : Int) = K at *
                  simp [c0, fa, ixk, ldk, c1, c2, ck, w2, ix1, ld1, c3, c4, c5, w1, gtt]
    · right
      have hk' : k = 4 := by omega
      subst hk'
      refine ⟨.exit 0 [Z (.ptr s.size 0)], u, ?_, (fun v hv => by cases hv), .inl ⟨rfl, (agesOk_iff p).2 hok⟩, rfl⟩
      unfold f85_l1
      simp) 8192 4 [Z (.ptr s.size 0), I .i64 0] s1 ⟨0, rfl, rfl, rfl, fun j hj => by omega⟩ (by omega)
  subst hτ
  refine ⟨τ, ?_, g⟩
  have fa0 : aFieldAddr 0 (Z (.ptr s.size 0)) = some (Z (.ptr s.size 0)) := rfl
  have fa4 : aFieldAddr 4 (Z (.ptr s.size 0)) = some (Z (.ptr s.size 4)) := rfl
  have fa5 : aFieldAddr 5 (Z (.ptr s.size 0)) = some (Z (.ptr s.size 5)) := rfl
  have ix3 : aIndexArr 4 1 (Z (.ptr s.size 0)) (I .i64 3) = some (Z (.ptr s.size 3)) := rfl
  have ld3 := ld 3 (by omega)
  rcases hj with ⟨rfl, ha⟩ | ⟨rfl, ha⟩
  · have hm : mayP p = (decide (p.a3 = 0) && decide (1 ≤ p.c) && decide (p.c ≤ 64) && decide (1 ≤ p.n) && decide (p.n ≤ 200)) := by simp [mayP, ha]
    rw [hm]
    by_cases d1 : p.a3 = 0
    · by_cases d2 : 1 ≤ p.c
      · by_cases d3 : p.c ≤ 64
        · by_cases d4 : 1 ≤ p.n
          · simp [nw, lp, fa0, fa4, fa5, ix3, ld3, ld4, ld5, ageAt, d1, d2, d3, d4]
          · simp [nw, lp, fa0, fa4, fa5, ix3, ld3, ld4, ld5, ageAt, d1, d2, d3, d4]
        · simp [nw, lp, fa0, fa4, fa5, ix3, ld3, ld4, ld5, ageAt, d1, d2, d3]
      · simp [nw, lp, fa0, fa4, fa5, ix3, ld3, ld4, ld5, ageAt, d1, d2]
    · simp [nw, lp, fa0, fa4, fa5, ix3, ld3, ageAt, d1]
  · have hm : mayP p = false := by simp [mayP, ha]
    rw [hm]
    simp [nw, lp]
end
end Go.Proofs.YtlhbidbdmdcdeaaGreatDoor

/-
  The document's own reader of a line. No conditions but those named in each line.
-/
namespace Go.Proofs.YtlhbidbdmdcdeaaGreatDoor
open Go Go.Abs Go.Abs.F
set_option linter.unusedVariables false

def hitAt (w : Bs) (n : Int) (was : List Bool) (j : Nat) : Bool := decide (tNames.getD j [] = w) && (decide (0 ≤ n) && !was.getD j false)
def rkeep (p : Pol) (was : List Bool) (w : Bs) (n : Int) : Option (Pol × List Bool) := match (List.range 4).find? (hitAt w n was) with
  | none => none
  | some j => some (setAge p (j : Nat) n, was.set j true)
def rlineP (p : Pol) (was : List Bool) (ws : List Bs) : Option (Pol × List Bool) :=
  if ws.length = 3 ∧ ws.getD 0 [] = kKeep then rkeep p was (ws.getD 1 []) (if ws.getD 2 [] = kEver then 0 else rnumV (ws.getD 2 []))
  else if ws.length ≠ 2 ∨ rnumV (ws.getD 1 []) < 0 then none
  else if ws.getD 0 [] = kSeal ∧ was.getD 4 false = false then some ({ p with c := rnumV (ws.getD 1 []) }, was.set 4 true)
  else if ws.getD 0 [] = kSpan ∧ was.getD 5 false = false then some ({ p with n := rnumV (ws.getD 1 []) }, was.set 5 true)
  else none

def boolS (l : List Bool) : List S := l.map S.bool

/-- All but two blocks are as they were. -/
def But2 (i c : Nat) (s t : St) : Prop := t.wf ∧ s.size ≤ t.size ∧ ∀ b, b < s.size → b ≠ i → b ≠ c → t.get b = s.get b

section
variable {s t : St} {x y : S} {l : Bs} {i c : Nat}

theorem Gr.but2 {s t : St} (h : Gr s t) (i c : Nat) : But2 i c s t := ⟨h.1, h.2.1, fun b hb _ _ => h.2.2 b hb⟩

theorem find_hit {f : Nat → Bool} {k : Nat} (hk : k < 4) (h : ∀ j, j < k → f j = false) (hf : f k = true) : (List.range 4).find? f = some k := by
  have e : List.range 4 = [0, 1, 2, 3] := rfl
  rw [e]
  match k, hk with
  | 0, _ => simp [hf]
  | 1, _ => simp [hf, h 0 (by omega)]
  | 2, _ => simp [hf, h 0 (by omega), h 1 (by omega)]
  | 3, _ => simp [hf, h 0 (by omega), h 1 (by omega), h 2 (by omega)]

theorem find_none {f : Nat → Bool} (h : ∀ j, j < 4 → f j = false) : (List.range 4).find? f = none := by
  have e : List.range 4 = [0, 1, 2, 3] := rfl
  rw [e]
  simp [h 0 (by omega), h 1 (by omega), h 2 (by omega), h 3 (by omega)]

/-- Storing a number and a mark. -/
theorem two_stores {p p' : Pol} {was : List Bool} {j m : Nat} {n : Int} (wf : s.wf) (hp : s.get i = some (.cells true (cP p))) (hc : s.get c = some (.cells true (boolS was))) (hic : i ≠ c) (hj : j < 6) (hm : m < was.length)
    (hset : setRange (cP p) j [.int .i64 n] = cP p') :
    ∃ t1 t2, aStore 1 (Z (.ptr i j)) (I .i64 n) s = some (tt, t1) ∧ aStore 1 (Z (.ptr c m)) (B true) t1 = some (tt, t2) ∧ t2.get i = some (.cells true (cP p')) ∧ t2.get c = some (.cells true (boolS (was.set m true))) ∧ But2 i c s t2 := by
  have hil := wf.lt hp
  have hcl := wf.lt hc
  have e1 := aStore1_of (σ := s) (i := i) (o := j) (x := .int .i64 n) hp (by simpa [cP] using hj)
  have hc1 : (s.set i (.cells true (cP p'))).get c = some (.cells true (boolS was)) := by rw [St.get_set_ne _ _ (fun e => hic e.symm)]; exact hc
  have e2 := aStore1_of (σ := s.set i (.cells true (cP p'))) (i := c) (o := m) (x := .bool true) hc1 (by simpa [boolS] using hm)
  rw [hset] at e1
  refine ⟨_, _, e1, e2, ?_, ?_, St.wf_set (St.wf_set wf hil _) (by simpa using hcl) _, by simp, fun b hb h1 h2 => by rw [St.get_set_ne _ _ h2, St.get_set_ne _ _ h1]⟩
  · rw [St.get_set_ne _ _ hic]; exact St.get_set_same _ _ _
  · rw [St.get_set_same]
    show some (Blk.cells true ((boolS was).set m (.bool true))) = _
    rw [boolS, boolS, List.map_set]

theorem rkeep_run (d : Nat) (wf : s.wf) {p : Pol} {was : List Bool} {ws : List Bs} {n : Int} {cap : Cap} (hp : s.get i = some (.cells true (cP p))) (hc : s.get c = some (.cells true (boolS was))) (hw : was.length = 6) (hic : i ≠ c) (hx : RT s x ws) (hox : ∀ b, own x = some b → b < s.size) {w1 : Bs} (hw1 : ws[1]? = some w1) :
    ∃ j t, loops (f84_l1 (R (d + 1)) 8192) 8192 [Z (.ptr i 0), Z (.sl c 0 6 cap), Z x, I .i64 n, I .i64 0] s = some (j, t) ∧
      match rkeep p was w1 n with
      | none => j = .exit 0 [] ∧ Gr s t
      | some (p', was') => j = .ret (B true) ∧ t.get i = some (.cells true (cP p')) ∧ t.get c = some (.cells true (boolS was')) ∧ But2 i c s t := by
  have hil := wf.lt hp
  have hcl := wf.lt hc
  obtain ⟨j, τ, lp, hj⟩ := loops_inv (f := f84_l1 (R (d + 1)) 8192) (fun q v u => ∃ k : Nat, q + k = 4 ∧ v = [Z (.ptr i 0), Z (.sl c 0 6 cap), Z x, I .i64 n, I .i64 (k : Nat)] ∧ Gr s u ∧ ∀ j, j < k → hitAt w1 n was j = false)
    (fun j t => match rkeep p was w1 n with
      | none => j = .exit 0 [] ∧ Gr s t
      | some (p', was') => j = .ret (B true) ∧ t.get i = some (.cells true (cP p')) ∧ t.get c = some (.cells true (boolS was')) ∧ But2 i c s t) (by
    rintro q v u ⟨k, hk, rfl, g, hno⟩
    by_cases hk4 : k < 4
    · have c0 : ((k : Nat) : Int) < 4 := by omega
      obtain ⟨nm, u1, e1, f1⟩ := rnames_run d g.wf
      have g1 := g.trans f1.gr
      have hnk : tNames[k]? = some (tNames.getD k []) := by
        rw [List.getD_eq_getElem?_getD, List.getElem?_eq_getElem (show k < tNames.length from hk4)]
        rfl
      obtain ⟨q1, i1, l1⟩ := RT.atT f1.rd (n := ((k : Nat) : Int)) rfl hnk
      obtain ⟨q2, i2, l2⟩ := RT.atT hx (j := 1) (n := 1) rfl hw1
      have l2u : aLoad1 q2 u.get = some (Z (.str w1)) := by
        obtain ⟨q2', i2', l2'⟩ := RT.atT (hx.gr hox g) (j := 1) (n := 1) rfl hw1
        rw [i2] at i2'
        cases i2'
        exact l2'
      have l2u1 : aLoad1 q2 u1.get = some (Z (.str w1)) := by
        obtain ⟨q2', i2', l2'⟩ := RT.atT (hx.gr hox g1) (j := 1) (n := 1) rfl hw1
        rw [i2] at i2'
        cases i2'
        exact l2'
      have hcu : u1.get c = some (.cells true (boolS was)) := by rw [g1.2.2 c hcl]; exact hc
      have hpu : u1.get i = some (.cells true (cP p)) := by rw [g1.2.2 i hil]; exact hp
      have i3 : aIndexSl 1 (Z (.sl c 0 6 cap)) (I .i64 (k : Nat)) = some (Z (.ptr c k)) := by
        have := aIndexSl_int (e := 1) (b := c) (o := 0) (len := 6) (c := cap) (k := .i64) (n := ((k : Nat) : Int)) rfl (show k < 6 by omega)
        simpa using this
      have l3 : aLoad1 (Z (.ptr c k)) u1.get = some (B (was.getD k false)) := by
        refine aLoad1_of hcu ?_
        rw [boolS, List.getElem?_map, List.getD_eq_getElem?_getD, List.getElem?_eq_getElem (by omega)]
        rfl
      have wk : IntKind.i64.wrap ((k : Int) + 1) = ((k + 1 : Nat) : Int) := by rw [wrap_in _ (by omega) (by omega)]; omega
      obtain ⟨nk, hnk0⟩ : ∃ nk, nk = tNames.getD k [] := ⟨_, rfl⟩
      rw [← hnk0] at l1
      have hstay : hitAt w1 n was k = false → ∀ j, j < k + 1 → hitAt w1 n was j = false := fun h j hj => by
        by_cases e : j = k
        · rw [e]; exact h
        · exact hno j (by omega)
      cases hh : hitAt w1 n was k with
      | true =>
        right
        have hr : rkeep p was w1 n = some (setAge p (k : Nat) n, was.set k true) := by
          unfold rkeep
          rw [find_hit hk4 hno hh]
        rw [hr]
        have hh' := hh
        simp only [hitAt, Bool.and_eq_true, decide_eq_true_eq, Bool.not_eq_true'] at hh'
        obtain ⟨h1, h2, h3⟩ := hh'
        obtain ⟨t1, t2, s1, s2, r1, r2, bt⟩ := two_stores (j := k) (m := k) (n := n) g1.wf hpu hcu hic (by omega) (by omega) (set_age hk4)
        refine ⟨.ret (B true), t2, ?_, (fun v hv => by cases hv), rfl, r1, r2, bt.1, Nat.le_trans g1.2.1 bt.2.1, fun b hb hb1 hb2 => by rw [bt.2.2 b (Nat.lt_of_lt_of_le hb g1.2.1) hb1 hb2, g1.2.2 b hb]⟩
        have fa : aFieldAddr 0 (Z (.ptr i 0)) = some (Z (.ptr i 0)) := rfl
        have i4 : aIndexArr 4 1 (Z (.ptr i 0)) (I .i64 (k : Nat)) = some (Z (.ptr i k)) := by
          match k, hk4 with
          | 0, _ => rfl
          | 1, _ => rfl
          | 2, _ => rfl
          | 3, _ => rfl
        rw [← hnk0] at h1
        subst h1
        rw [h3] at l3
        unfold f84_l1
        clear hnk hnk0
        generalize ((k : Nat) : Int) = K at *
        generalize R (d + 1) = r at *
        simp [c0, e1, i1, l1, i2, l2u1, l2u, h2, i3, l3, fa, i4, s1, s2]
      | false =>
        left
        refine ⟨[Z (.ptr i 0), Z (.sl c 0 6 cap), Z x, I .i64 n, I .i64 ((k + 1 : Nat) : Int)], u1, q - 1, ?_, by omega, k + 1, by omega, rfl, g1, hstay hh⟩
        simp only [hitAt, ← hnk0] at hh
        unfold f84_l1
        generalize ((k + 1 : Nat) : Int) = K1 at *
        clear hnk hnk0
        generalize ((k : Nat) : Int) = K at *
        generalize R (d + 1) = r at *
        by_cases h1 : nk = w1
        · rw [h1] at l1
          rw [decide_eq_true h1, Bool.true_and] at hh
          by_cases h2 : 0 ≤ n
          · rw [decide_eq_true h2, Bool.true_and, Bool.not_eq_false'] at hh
            rw [hh] at l3
            simp [c0, e1, i1, l1, i2, l2u1, l2u, h2, i3, l3, wk]
          · simp [c0, e1, i1, l1, i2, l2u1, l2u, h2, wk]
        · simp [c0, e1, i1, l1, i2, l2u1, l2u, h1, wk]
    · right
      have hk' : k = 4 := by omega
      subst hk'
      refine ⟨.exit 0 [], u, ?_, (fun v hv => by cases hv), ?_⟩
      · unfold f84_l1
        simp
      · have : rkeep p was w1 n = none := by unfold rkeep; rw [find_none hno]
        rw [this]
        exact ⟨rfl, g⟩) 8192 4 [Z (.ptr i 0), Z (.sl c 0 6 cap), Z x, I .i64 n, I .i64 0] s ⟨0, rfl, rfl, Gr.refl wf, fun j hj => by omega⟩ (by omega)
  exact ⟨j, τ, lp, hj⟩
end
end Go.Proofs.YtlhbidbdmdcdeaaGreatDoor

/-
  The document's own reader of a line, whole. No conditions but those named in each line.
-/
namespace Go.Proofs.YtlhbidbdmdcdeaaGreatDoor
open Go Go.Abs Go.Abs.F
set_option linter.unusedVariables false
section
variable {s t : St} {x y : S} {l : Bs} {i c : Nat}

theorem set_c {p : Pol} {n : Int} : setRange (cP p) 4 [.int .i64 n] = cP { p with c := n } := rfl
theorem set_n {p : Pol} {n : Int} : setRange (cP p) 5 [.int .i64 n] = cP { p with n := n } := rfl

theorem rline_run (d : Nat) (wf : s.wf) {p : Pol} {was : List Bool} {ws : List Bs} {cap : Cap} (hp : s.get i = some (.cells true (cP p))) (hc : s.get c = some (.cells true (boolS was))) (hw : was.length = 6) (hic : i ≠ c) (hx : RT s x ws) (hox : ∀ b, own x = some b → b < s.size) :
    ∃ b t, R (d + 2) 84 [Z (.ptr i 0), Z (.sl c 0 6 cap), Z x] s = some (B b, t) ∧
      match rlineP p was ws with
      | none => b = false ∧ Gr s t
      | some (p', was') => b = true ∧ t.get i = some (.cells true (cP p')) ∧ t.get c = some (.cells true (boolS was')) ∧ But2 i c s t := by
  rw [f84_run]
  unfold f84
  have hll := hx.lens
  have at_ : ∀ (j : Nat) (w : Bs), ws[j]? = some w → ∃ q, aIndexSl 1 (Z x) (I .i64 (j : Nat)) = some q ∧ aLoad1 q s.get = some (Z (.str w)) := fun j w h => RT.atT hx (n := ((j : Nat) : Int)) rfl h
  have was_at : ∀ j, j < 6 → ∃ q, aIndexSl 1 (Z (.sl c 0 6 cap)) (I .i64 (j : Nat)) = some q ∧ aLoad1 q s.get = some (B (was.getD j false)) ∧ q = Z (.ptr c j) := fun j hj => by
    refine ⟨Z (.ptr c j), ?_, ?_, rfl⟩
    · have := aIndexSl_int (e := 1) (b := c) (o := 0) (len := 6) (c := cap) (k := .i64) (n := ((j : Nat) : Int)) rfl hj
      simpa using this
    · refine aLoad1_of hc ?_
      rw [boolS, List.getElem?_map, List.getD_eq_getElem?_getD, List.getElem?_eq_getElem (by omega)]
      rfl
  by_cases h3 : ws.length = 3
  · obtain ⟨w0, w1, w2, rfl⟩ : ∃ w0 w1 w2, ws = [w0, w1, w2] := by
      match ws, h3 with
      | [a, b, c], _ => exact ⟨a, b, c, rfl⟩
    have hll : aLenSl (Z x) = some (I .i64 3) := hll
    obtain ⟨q0, i0, l0⟩ := at_ 0 w0 rfl
    obtain ⟨q2, i2, l2⟩ := at_ 2 w2 rfl
    have i0 : aIndexSl 1 (Z x) (I .i64 0) = some q0 := i0
    have i2 : aIndexSl 1 (Z x) (I .i64 2) = some q2 := i2
    by_cases hk : w0 = kKeep
    · have hr : rlineP p was [w0, w1, w2] = rkeep p was w1 (if w2 = kEver then 0 else rnumV w2) := by
        unfold rlineP
        rw [if_pos ⟨rfl, hk⟩]
        rfl
      rw [hr]
      have hn := rnumber_run (l := w2) (s := s) d
      have hk' : decide (w0 = [107, 101, 101, 112]) = true := decide_eq_true hk
      have ev : decide (w2 = [101, 118, 101, 114]) = decide (w2 = kEver) := rfl
      obtain ⟨j, τ, lp, hj⟩ := rkeep_run (n := if w2 = kEver then 0 else rnumV w2) (cap := cap) (w1 := w1) d wf hp hc hw hic hx hox rfl
      have res : ∃ b, (jn (jn (loops (f84_l1 (R (d + 1)) 8192) 8192 [Z (.ptr i 0), Z (.sl c 0 6 cap), Z x, I .i64 (if w2 = kEver then 0 else rnumV w2), I .i64 0] s)
          (fun v13 s14 => some (JO.normal [], s14)) (fun i15 v13 s14 => if i15 = 0 then some (JO.normal v13, s14) else some (JO.exit i15 v13, s14)) (fun r16 s14 => some (JO.ret r16, s14)))
          (fun v17 s18 => some ((B false), s18)) (fun i19 v17 s18 => none) (fun r20 s18 => some (r20, s18)) : Option (T × St)) = some (B b, τ) ∧
          match rkeep p was w1 (if w2 = kEver then 0 else rnumV w2) with
          | none => b = false ∧ Gr s τ
          | some (p', was') => b = true ∧ τ.get i = some (.cells true (cP p')) ∧ τ.get c = some (.cells true (boolS was')) ∧ But2 i c s τ := by
        rw [lp]
        cases hrk : rkeep p was w1 (if w2 = kEver then 0 else rnumV w2) with
        | none =>
          rw [hrk] at hj
          obtain ⟨rfl, g⟩ := hj
          exact ⟨false, by simp, rfl, g⟩
        | some pw =>
          rw [hrk] at hj
          obtain ⟨rfl, r1, r2, r3⟩ := hj
          exact ⟨true, by simp, rfl, r1, r2, r3⟩
      obtain ⟨b, e, hb⟩ := res
      refine ⟨b, τ, ?_, hb⟩
      by_cases he : w2 = kEver
      · rw [if_pos he] at e
        have he' : decide (w2 = [101, 118, 101, 114]) = true := decide_eq_true he
        generalize R (d + 1) = r at *
        simp only [hll, bd_some, eql_int, decide_true, gd_bool, beq_self_eq_true, gT_true, i0, l0, eql_str, hk', aPick_bool_true, br_true, i2, l2, hn, bd2_some, he', jn_normal, List.getD_cons_zero, List.getD_cons_succ]
        exact e
      · rw [if_neg he] at e
        have he' : decide (w2 = [101, 118, 101, 114]) = false := decide_eq_false he
        generalize R (d + 1) = r at *
        simp only [hll, bd_some, eql_int, decide_true, gd_bool, beq_self_eq_true, gT_true, i0, l0, eql_str, hk', aPick_bool_true, br_true, br_false, i2, l2, hn, bd2_some, he', jn_normal, List.getD_cons_zero, List.getD_cons_succ]
        exact e
    · have hr : rlineP p was [w0, w1, w2] = none := by
        unfold rlineP
        rw [if_neg (fun h => hk h.2), if_pos (.inl (by simp))]
      rw [hr]
      have hk' : decide (w0 = [107, 101, 101, 112]) = false := decide_eq_false hk
      refine ⟨false, s, ?_, rfl, Gr.refl wf⟩
      generalize R (d + 1) = r at *
      simp [hll, i0, l0, hk', gtt]
  · by_cases h2 : ws.length = 2
    · obtain ⟨w0, w1, rfl⟩ : ∃ w0 w1, ws = [w0, w1] := by
        match ws, h2 with
        | [a, b], _ => exact ⟨a, b, rfl⟩
      have hll : aLenSl (Z x) = some (I .i64 2) := hll
      obtain ⟨q0, i0, l0⟩ := at_ 0 w0 rfl
      obtain ⟨q1, i1, l1⟩ := at_ 1 w1 rfl
      have i0 : aIndexSl 1 (Z x) (I .i64 0) = some q0 := i0
      have i1 : aIndexSl 1 (Z x) (I .i64 1) = some q1 := i1
      have hn := rnumber_run (l := w1) (s := s) d
      have hr : rlineP p was [w0, w1] = if rnumV w1 < 0 then none else if w0 = kSeal ∧ was.getD 4 false = false then some ({ p with c := rnumV w1 }, was.set 4 true) else if w0 = kSpan ∧ was.getD 5 false = false then some ({ p with n := rnumV w1 }, was.set 5 true) else none := by
        unfold rlineP
        rw [if_neg (fun h => by simp at h)]
        by_cases hneg : rnumV w1 < 0
        · rw [if_pos (.inr hneg), if_pos hneg]
        · rw [if_neg (fun h => h.elim (fun h => h rfl) hneg), if_neg hneg]
          rfl
      rw [hr]
      by_cases hneg : rnumV w1 < 0
      · rw [if_pos hneg]
        refine ⟨false, s, ?_, rfl, Gr.refl wf⟩
        generalize rnumV w1 = V at *
        generalize R (d + 1) = r at *
        simp [hll, i1, l1, hn, hneg]
      · rw [if_neg hneg]
        obtain ⟨q4, i4, l4, hq4⟩ := was_at 4 (by omega)
        obtain ⟨q5, i5, l5, hq5⟩ := was_at 5 (by omega)
        subst hq4 hq5
        have i4 : aIndexSl 1 (Z (.sl c 0 6 cap)) (I .i64 4) = some (Z (.ptr c 4)) := i4
        have i5 : aIndexSl 1 (Z (.sl c 0 6 cap)) (I .i64 5) = some (Z (.ptr c 5)) := i5
        obtain ⟨a1, a2, sa1, sa2, ra1, ra2, ba⟩ := two_stores (j := 4) (m := 4) (n := rnumV w1) wf hp hc hic (by omega) (by omega) set_c
        obtain ⟨b1, b2, sb1, sb2, rb1, rb2, bb⟩ := two_stores (j := 5) (m := 5) (n := rnumV w1) wf hp hc hic (by omega) (by omega) set_n
        have fa4 : aFieldAddr 4 (Z (.ptr i 0)) = some (Z (.ptr i 4)) := rfl
        have fa5 : aFieldAddr 5 (Z (.ptr i 0)) = some (Z (.ptr i 5)) := rfl
        obtain ⟨x4, hx4⟩ : ∃ x4, x4 = was.getD 4 false := ⟨_, rfl⟩
        obtain ⟨x5, hx5⟩ : ∃ x5, x5 = was.getD 5 false := ⟨_, rfl⟩
        rw [← hx4] at l4 ⊢
        rw [← hx5] at l5 ⊢
        have ks : decide (w0 = [115, 101, 97, 108]) = decide (w0 = kSeal) := rfl
        have kp : decide (w0 = [115, 112, 97, 110]) = decide (w0 = kSpan) := rfl
        have hsp : w0 = kSeal → ¬ w0 = kSpan := fun h h' => by rw [h] at h'; exact absurd h' (by decide)
        generalize rnumV w1 = V at *
        generalize R (d + 1) = r at *
        by_cases hs : w0 = kSeal
        · rw [decide_eq_true hs] at ks
          rw [decide_eq_false (hsp hs)] at kp
          cases x4 with
          | false =>
            rw [if_pos ⟨hs, rfl⟩]
            exact ⟨true, a2, by simp [hll, i1, l1, hn, hneg, i0, l0, ks, i4, l4, fa4, sa1, sa2], rfl, ra1, ra2, ba⟩
          | true =>
            rw [if_neg (fun h => by cases h.2), if_neg (fun h => hsp hs h.1)]
            exact ⟨false, s, by simp [hll, i1, l1, hn, hneg, i0, l0, ks, i4, l4, kp, gtt], rfl, Gr.refl wf⟩
        · rw [decide_eq_false hs] at ks
          rw [if_neg (fun h => hs h.1)]
          by_cases hp' : w0 = kSpan
          · rw [decide_eq_true hp'] at kp
            cases x5 with
            | false =>
              rw [if_pos ⟨hp', rfl⟩]
              exact ⟨true, b2, by simp [hll, i1, l1, hn, hneg, i0, l0, ks, kp, i5, l5, fa5, sb1, sb2], rfl, rb1, rb2, bb⟩
            | true =>
              rw [if_neg (fun h => by cases h.2)]
              exact ⟨false, s, by simp [hll, i1, l1, hn, hneg, i0, l0, ks, kp, i5, l5], rfl, Gr.refl wf⟩
          · rw [decide_eq_false hp'] at kp
            rw [if_neg (fun h => hp' h.1)]
            exact ⟨false, s, by simp [hll, i1, l1, hn, hneg, i0, l0, ks, kp], rfl, Gr.refl wf⟩
    · have hr : rlineP p was ws = none := by
        unfold rlineP
        rw [if_neg (fun h => h3 h.1), if_pos (.inl h2)]
      rw [hr]
      have c3 : ¬ ((ws.length : Nat) : Int) = 3 := by omega
      have c2 : ¬ ((ws.length : Nat) : Int) = 2 := by omega
      refine ⟨false, s, ?_, rfl, Gr.refl wf⟩
      generalize ((ws.length : Nat) : Int) = L at *
      generalize R (d + 1) = r at *
      simp [hll, c3, c2, gtt]
end
end Go.Proofs.YtlhbidbdmdcdeaaGreatDoor

/-
  The document's own reader of policies, whole. No conditions but those named in each line.
-/
namespace Go.Proofs.YtlhbidbdmdcdeaaGreatDoor
open Go Go.Abs Go.Abs.F
set_option linter.unusedVariables false

def rgo : Pol → List Bool → Nat → List Bs → Pol × Int × Int
  | p, _, _, [] => if mayP p then (p, 0, 0) else (pol0, 5, 0)
  | p, was, k, x :: r => if wordsOf x = [] then rgo p was (k + 1) r else
    match rlineP p was (wordsOf x) with
    | none => (pol0, 4, ((k + 1 : Nat) : Int))
    | some (p', was') => rgo p' was' (k + 1) r

def linesR : Bs → Bs → List Bs
  | [], cur => [cur]
  | b :: r, cur => if b = 10 then cur :: linesR r [] else linesR r (cur ++ [b])

theorem linesR_eq : ∀ (x cur : Bs), linesR x cur = (match splitB 10 x with | [] => [] | h :: t => (cur ++ h) :: t)
  | [], cur => by simp [linesR, splitB]
  | b :: r, cur => by
    unfold linesR
    have hne : splitB 10 r ≠ [] := fun h => by have := splitB_len 10 r; rw [h] at this; simp at this
    rw [splitB_cons]
    by_cases h : b = 10
    · rw [if_pos h, linesR_eq r []]
      have : Nat.beq b.toNat (10 : UInt8).toNat = true := beq_byte.2 h
      rw [this]
      cases hs : splitB 10 r with
      | nil => exact absurd hs hne
      | cons a t => simp
    · have : Nat.beq b.toNat (10 : UInt8).toNat = false := by
        rw [Bool.eq_false_iff]
        exact fun e => h (beq_byte.1 e)
      rw [if_neg h, this, linesR_eq r (cur ++ [b])]
      cases hs : splitB 10 r with
      | nil => exact absurd hs hne
      | cons a t => simp [consHd]

theorem linesR_of (x : Bs) : linesR x [] = splitB 10 x := by
  rw [linesR_eq]
  cases hs : splitB 10 x with
  | nil => rfl
  | cons a t => simp

def rparseP (l : Bs) : Pol × Int × Int := rgo polD (List.replicate 6 false) 0 (splitB 10 l)
abbrev resP (q : Pol × Int × Int) : T := .tup [.agg (cP q.1), .s (.int .i64 q.2.1), .s (.int .i64 q.2.2)]

theorem rlineP_len {p p' : Pol} {was was' : List Bool} {ws : List Bs} (h : rlineP p was ws = some (p', was')) : was'.length = was.length := by
  unfold rlineP rkeep at h
  split at h
  · split at h
    · cases h
    · cases h; simp
  · split at h
    · cases h
    · split at h
      · cases h; simp
      · split at h
        · cases h; simp
        · cases h

section
variable {s t : St} {x y : S} {l : Bs} {i c r0 : Nat}

set_option maxHeartbeats 1000000 in
theorem rparse_run (d : Nat) (wf : s.wf) (hl : l.length ≤ 8000) : ∃ t, R (d + 3) 64 [Z (.str l)] s = some (resP (rparseP l), t) ∧ Gr s t := by
  rw [f64_run]
  unfold f64
  have hll : aLenStr (Z (.str l)) = some (I .i64 ((l.length : Nat) : Int)) := rfl
  obtain ⟨s1, hs1⟩ : ∃ s1, s1 = s.push (.cells true (cP pol0)) := ⟨_, rfl⟩
  have nw1 : aNew s (nCells [.int .i64 0, .int .i64 0, .int .i64 0, .int .i64 0, .int .i64 0, .int .i64 0]) = some (Z (.ptr s.size 0), s1) := by rw [hs1]; rfl
  have g1 : Gr s s1 := by rw [hs1]; exact Gr.push wf _
  have b1 : s1.get s.size = some (.cells true (cP pol0)) := by rw [hs1]; exact St.get_push_same _ _
  have z1 : s1.size = s.size + 1 := by rw [hs1]; simp
  obtain ⟨s2, e2, g2⟩ := rdefault_run (d + 1) g1.wf
  obtain ⟨s3, hs3⟩ : ∃ s3, s3 = s2.push (.cells true (cP pol0)) := ⟨_, rfl⟩
  have nw3 : aNew s2 (nCells [.int .i64 0, .int .i64 0, .int .i64 0, .int .i64 0, .int .i64 0, .int .i64 0]) = some (Z (.ptr s2.size 0), s3) := by rw [hs3]; rfl
  have b3 : s3.get s2.size = some (.cells true (cP pol0)) := by rw [hs3]; exact St.get_push_same _ _
  have g3 : Gr s2 s3 := by rw [hs3]; exact Gr.push g2.wf _
  have z3 : s3.size = s2.size + 1 := by rw [hs3]; simp
  obtain ⟨s4, hs4⟩ : ∃ s4, s4 = s3.set s2.size (.cells true (cP polD)) := ⟨_, rfl⟩
  have st4 := store6 (p := polD) b3 rfl
  rw [← hs4] at st4
  have b4 : s4.get s2.size = some (.cells true (cP polD)) := by rw [hs4]; exact St.get_set_same _ _ _
  have z4 : s4.size = s2.size + 1 := by rw [hs4]; simp [z3]
  have wf4 : s4.wf := by rw [hs4]; exact St.wf_set g3.wf (by omega) _
  have o4 : ∀ b, b < s2.size → s4.get b = s2.get b := fun b hb => by rw [hs4, St.get_set_ne _ _ (by omega)]; exact g3.2.2 b hb
  obtain ⟨s5, hs5⟩ : ∃ s5, s5 = s4.push (.cells true (boolS (List.replicate 6 false))) := ⟨_, rfl⟩
  have nw5 : aNew s4 (nMake 1 1 [.bool false] (I .i64 6) (I .i64 6)) = some (Z (.sl s4.size 0 6 (.known 6)), s5) := by rw [hs5]; rfl
  have g5 : Gr s4 s5 := by rw [hs5]; exact Gr.push wf4 _
  have hz2 := g2.2.1
  have i2 : s2.size ≠ s4.size := by omega
  have b5i : s5.get s2.size = some (.cells true (cP polD)) := by rw [g5.2.2 _ (by omega)]; exact b4
  have b5c : s5.get s4.size = some (.cells true (boolS (List.replicate 6 false))) := by rw [hs5]; exact St.get_push_same _ _
  have b5r : s5.get s.size = some (.cells true (cP pol0)) := by rw [g5.2.2 _ (by omega), o4 _ (by omega), g2.2.2 _ (by omega)]; exact b1
  have z5 : s5.size = s4.size + 1 := by rw [hs5]; simp
  have old5 : ∀ b, b < s.size → s5.get b = s.get b := fun b hb => by rw [g5.2.2 _ (by omega), o4 _ (by omega), g2.2.2 _ (by omega), g1.2.2 _ hb]
  -- what lies ahead of the loop
  obtain ⟨I0, hI⟩ : ∃ I0, I0 = s2.size := ⟨_, rfl⟩
  obtain ⟨C0, hC⟩ : ∃ C0, C0 = s4.size := ⟨_, rfl⟩
  obtain ⟨R0, hR⟩ : ∃ R0, R0 = s.size := ⟨_, rfl⟩
  have hIC : I0 ≠ C0 := by omega
  have hRI : R0 ≠ I0 := by omega
  have hRC : R0 ≠ C0 := by omega
  rw [← hI] at nw3 st4 b5i
  rw [← hC] at nw5 b5c
  rw [← hR] at nw1 b5r
  have res6 : ∀ (u : St) (q : Pol), u.get R0 = some (.cells true (cP pol0)) → ∃ u', aStore 6 (Z (.ptr R0 0)) (AP q) u = some (tt, u') ∧ aLoadN 6 (Z (.ptr R0 0)) u'.get = some (AP q) ∧ (u.wf → u'.wf) ∧ u'.size = u.size ∧ ∀ b, b ≠ R0 → u'.get b = u.get b := fun u q h =>
    ⟨_, store6 h rfl, load6 (St.get_set_same _ _ _), fun w => St.wf_set w (w.lt h) _, by simp, fun b hb => St.get_set_ne _ _ hb⟩
  obtain ⟨j, τ, lp, hj⟩ := loops_inv (f := f64_l1 (R (d + 2)) 8192) (fun q v u => ∃ (k a n : Nat) (p : Pol) (was : List Bool), q + k = l.length + 1 ∧ a ≤ k ∧ n ≤ k ∧ v = [Z (.str l), Z (.ptr R0 0), Z (.ptr I0 0), Z (.sl C0 0 6 (.known 6)), I .i64 (a : Nat), I .i64 (n : Nat), I .i64 (k : Nat)] ∧
      u.wf ∧ s5.size ≤ u.size ∧ (∀ b, b < s.size → u.get b = s.get b) ∧ u.get R0 = some (.cells true (cP pol0)) ∧ u.get I0 = some (.cells true (cP p)) ∧ u.get C0 = some (.cells true (boolS was)) ∧ was.length = 6 ∧
      rgo p was n (if k ≤ l.length then linesR (l.drop k) ((l.take k).drop a) else []) = rparseP l)
    (fun j u => u.wf ∧ s5.size ≤ u.size ∧ (∀ b, b < s.size → u.get b = s.get b) ∧ (j = .ret (resP (rparseP l)) ∨ ∃ p was n, j = .exit 0 [Z (.ptr R0 0), Z (.ptr I0 0)] ∧ u.get R0 = some (.cells true (cP pol0)) ∧ u.get I0 = some (.cells true (cP p)) ∧ rgo p was n [] = rparseP l)) (by
    rintro q v u ⟨k, a, n, p, was, hq, hak, hnk, rfl, wfu, hsz, old, bR, bI, bC, hwl, hgo⟩
    have w1 : IntKind.i64.wrap ((k : Int) + 1) = ((k + 1 : Nat) : Int) := by rw [wrap_in _ (by omega) (by omega)]; omega
    have w2 : IntKind.i64.wrap ((n : Int) + 1) = ((n + 1 : Nat) : Int) := by rw [wrap_in _ (by omega) (by omega)]; omega
    by_cases hkl : k ≤ l.length
    · have c0 : ((k : Nat) : Int) ≤ ((l.length : Nat) : Int) := by omega
      rw [if_pos hkl] at hgo
      -- the end of a line
      have line : ∀ rest : List Bs, rgo p was n ((l.take k).drop a :: rest) = rparseP l → rest = (if k + 1 ≤ l.length then linesR (l.drop (k + 1)) ((l.take (k + 1)).drop (k + 1)) else []) →
          (k = l.length ∨ (k < l.length ∧ aAtStr (Z (.str l)) (I .i64 (k : Nat)) = some (I .u8 10))) →
          (∃ v' s' k', f64_l1 (R (d + 2)) 8192 [Z (.str l), Z (.ptr R0 0), Z (.ptr I0 0), Z (.sl C0 0 6 (.known 6)), I .i64 (a : Nat), I .i64 (n : Nat), I .i64 (k : Nat)] u = some (.normal v', s') ∧ q = k' + 1 ∧
            ∃ (k a n : Nat) (p : Pol) (was : List Bool), k' + k = l.length + 1 ∧ a ≤ k ∧ n ≤ k ∧ v' = [Z (.str l), Z (.ptr R0 0), Z (.ptr I0 0), Z (.sl C0 0 6 (.known 6)), I .i64 (a : Nat), I .i64 (n : Nat), I .i64 (k : Nat)] ∧
              s'.wf ∧ s5.size ≤ s'.size ∧ (∀ b, b < s.size → s'.get b = s.get b) ∧ s'.get R0 = some (.cells true (cP pol0)) ∧ s'.get I0 = some (.cells true (cP p)) ∧ s'.get C0 = some (.cells true (boolS was)) ∧ was.length = 6 ∧
              rgo p was n (if k ≤ l.length then linesR (l.drop k) ((l.take k).drop a) else []) = rparseP l) ∨
          ∃ j s', f64_l1 (R (d + 2)) 8192 [Z (.str l), Z (.ptr R0 0), Z (.ptr I0 0), Z (.sl C0 0 6 (.known 6)), I .i64 (a : Nat), I .i64 (n : Nat), I .i64 (k : Nat)] u = some (j, s') ∧ (∀ v, j ≠ .normal v) ∧
            (s'.wf ∧ s5.size ≤ s'.size ∧ (∀ b, b < s.size → s'.get b = s.get b) ∧ (j = .ret (resP (rparseP l)) ∨ ∃ p was n, j = .exit 0 [Z (.ptr R0 0), Z (.ptr I0 0)] ∧ s'.get R0 = some (.cells true (cP pol0)) ∧ s'.get I0 = some (.cells true (cP p)) ∧ rgo p was n [] = rparseP l)) := fun rest h1 hrest hch => by
        have pc := piece_str hak hkl
        obtain ⟨o, u1, e1, f1⟩ := rwords_run (l := (l.take k).drop a) (d + 1) wfu (by rw [List.length_drop, List.length_take]; omega)
        have hIlt := wfu.lt bI
        have hClt := wfu.lt bC
        have hRlt := wfu.lt bR
        have lo := f1.rd.lens
        have hch' : ¬ ((k : Nat) : Int) < ((l.length : Nat) : Int) ∨ (((k : Nat) : Int) < ((l.length : Nat) : Int) ∧ aAtStr (Z (.str l)) (I .i64 (k : Nat)) = some (I .u8 10)) := by
          rcases hch with h | ⟨h, ha⟩
          · exact .inl (by omega)
          · exact .inr ⟨by omega, ha⟩
        have hkk : q = q - 1 + 1 := by omega
        by_cases hws : wordsOf ((l.take k).drop a) = []
        · have h2 : rgo p was (n + 1) rest = rparseP l := by rw [← h1, rgo, if_pos hws]
          have lz : aLenSl (Z o) = some (I .i64 0) := by rw [lo, hws]; rfl
          left
          refine ⟨[Z (.str l), Z (.ptr R0 0), Z (.ptr I0 0), Z (.sl C0 0 6 (.known 6)), I .i64 ((k + 1 : Nat) : Int), I .i64 ((n + 1 : Nat) : Int), I .i64 ((k + 1 : Nat) : Int)], u1, q - 1, ?_, hkk, k + 1, k + 1, n + 1, p, was, by omega, Nat.le_refl _, by omega, rfl, f1.gr.wf, Nat.le_trans hsz f1.gr.2.1,
            (fun b hb => by rw [f1.gr.2.2 b (by omega)]; exact old b hb), by rw [f1.gr.2.2 _ hRlt]; exact bR, by rw [f1.gr.2.2 _ hIlt]; exact bI, by rw [f1.gr.2.2 _ hClt]; exact bC, hwl, by rw [← hrest]; exact h2⟩
          unfold f64_l1
          clear hch h1 hgo
          generalize ((k + 1 : Nat) : Int) = K1 at *
          generalize ((n + 1 : Nat) : Int) = N1 at *
          generalize ((l.length : Nat) : Int) = L at *
          generalize ((k : Nat) : Int) = K at *
          generalize ((n : Nat) : Int) = NN at *
          generalize ((a : Nat) : Int) = A at *
          simp only [Nat.add_assoc, Nat.reduceAdd] at e1
          generalize R (d + 2) = r at *
          rcases hch' with hc | ⟨hc, ha⟩
          · simp [hll, c0, hc, gtt, w2, pc, e1, lz, w1]
          · simp [hll, c0, hc, ha, w2, pc, e1, lz, w1]
        · have hlp : (0 : Int) < (((wordsOf ((l.take k).drop a)).length : Nat) : Int) := by
            have := List.length_pos_iff.2 hws
            omega
          obtain ⟨b, u2, e2', hm⟩ := rline_run (cap := .known 6) (i := I0) (c := C0) d f1.gr.wf (p := p) (was := was) (by rw [f1.gr.2.2 _ hIlt]; exact bI) (by rw [f1.gr.2.2 _ hClt]; exact bC) hwl hIC f1.rd (fun b hb => (f1.new b hb).2)
          cases hr : rlineP p was (wordsOf ((l.take k).drop a)) with
          | none =>
            rw [hr] at hm
            obtain ⟨rfl, g2'⟩ := hm
            have h2 : rparseP l = (pol0, 4, ((n + 1 : Nat) : Int)) := by rw [← h1, rgo, if_neg hws, hr]
            have gu := f1.gr.trans g2'
            obtain ⟨u3, s3', l3, wf3, z3', o3⟩ := res6 u2 pol0 (by rw [gu.2.2 _ hRlt]; exact bR)
            right
            refine ⟨.ret (resP (rparseP l)), u3, ?_, (fun v hv => by cases hv), wf3 gu.wf, by rw [z3']; exact Nat.le_trans hsz gu.2.1, (fun b hb => by rw [o3 b (by omega), gu.2.2 b (by omega)]; exact old b hb), .inl rfl⟩
            rw [h2]
            unfold f64_l1
            clear hch h1 hgo hrest
            generalize (((wordsOf ((l.take k).drop a)).length : Nat) : Int) = WL at *
            generalize ((k + 1 : Nat) : Int) = K1 at *
            generalize ((n + 1 : Nat) : Int) = N1 at *
            generalize ((l.length : Nat) : Int) = L at *
            generalize ((k : Nat) : Int) = K at *
            generalize ((n : Nat) : Int) = NN at *
            generalize ((a : Nat) : Int) = A at *
            simp only [Nat.add_assoc, Nat.reduceAdd] at e1
            have ag := agg6
            generalize R (d + 2) = r at *
            rcases hch' with hc | ⟨hc, ha⟩
            · simp [hll, c0, hc, gtt, w2, pc, e1, lo, hlp, e2', ag, s3', l3, rC, rT, retT, allV]
            · simp [hll, c0, hc, ha, w2, pc, e1, lo, hlp, e2', ag, s3', l3, rC, rT, retT, allV]
          | some pw =>
            obtain ⟨p', was'⟩ := pw
            rw [hr] at hm
            obtain ⟨rfl, m1, m2, m3⟩ := hm
            have h2 : rgo p' was' (n + 1) rest = rparseP l := by rw [← h1, rgo, if_neg hws, hr]
            left
            refine ⟨[Z (.str l), Z (.ptr R0 0), Z (.ptr I0 0), Z (.sl C0 0 6 (.known 6)), I .i64 ((k + 1 : Nat) : Int), I .i64 ((n + 1 : Nat) : Int), I .i64 ((k + 1 : Nat) : Int)], u2, q - 1, ?_, hkk, k + 1, k + 1, n + 1, p', was', by omega, Nat.le_refl _, by omega, rfl, m3.1, Nat.le_trans hsz (Nat.le_trans f1.gr.2.1 m3.2.1),
              (fun b hb => by rw [m3.2.2 b (Nat.lt_of_lt_of_le (show b < u.size by omega) f1.gr.2.1) (by omega) (by omega), f1.gr.2.2 b (by omega)]; exact old b hb), by rw [m3.2.2 _ (Nat.lt_of_lt_of_le hRlt f1.gr.2.1) hRI hRC, f1.gr.2.2 _ hRlt]; exact bR, m1, m2, by rw [rlineP_len hr]; exact hwl, by rw [← hrest]; exact h2⟩
            unfold f64_l1
            clear hch h1 hgo hrest
            generalize (((wordsOf ((l.take k).drop a)).length : Nat) : Int) = WL at *
            generalize ((k + 1 : Nat) : Int) = K1 at *
            generalize ((n + 1 : Nat) : Int) = N1 at *
            generalize ((l.length : Nat) : Int) = L at *
            generalize ((k : Nat) : Int) = K at *
            generalize ((n : Nat) : Int) = NN at *
            generalize ((a : Nat) : Int) = A at *
            simp only [Nat.add_assoc, Nat.reduceAdd] at e1
            generalize R (d + 2) = r at *
            rcases hch' with hc | ⟨hc, ha⟩
            · simp [hll, c0, hc, gtt, w2, pc, e1, lo, hlp, e2', w1]
            · simp [hll, c0, hc, ha, w2, pc, e1, lo, hlp, e2', w1]
      by_cases hend : k = l.length
      · have hd : l.drop k = [] := by rw [List.drop_eq_nil_iff]; omega
        rw [hd, linesR] at hgo
        exact line [] hgo (by rw [if_neg (by omega)]) (.inl hend)
      · have hk : k < l.length := by omega
        have hd : l.drop k = l[k] :: l.drop (k + 1) := List.drop_eq_getElem_cons hk
        have ac := at_str (bs := l) (n := ((k : Nat) : Int)) rfl (List.getElem?_eq_getElem hk)
        rw [hd] at hgo
        unfold linesR at hgo
        by_cases h10 : l[k] = 10
        · rw [if_pos h10] at hgo
          rw [h10] at ac
          refine line _ hgo ?_ (.inr ⟨hk, ac⟩)
          rw [if_pos (by omega)]
          have hnil : (l.take (k + 1)).drop (k + 1) = [] := by
            rw [List.drop_eq_nil_iff, List.length_take]
            omega
          rw [hnil]
        · rw [if_neg h10] at hgo
          have tk : (l.take (k + 1)).drop a = (l.take k).drop a ++ [l[k]] := by
            rw [List.take_add_one, List.getElem?_eq_getElem hk, Option.toList_some, List.drop_append_of_le_length (by rw [List.length_take]; omega)]
          have hne : ¬ ((l[k].toNat : Nat) : Int) = 10 := fun h => h10 (UInt8.toNat.inj (by show l[k].toNat = 10; omega))
          have c2 : ((k : Nat) : Int) < ((l.length : Nat) : Int) := by omega
          left
          refine ⟨[Z (.str l), Z (.ptr R0 0), Z (.ptr I0 0), Z (.sl C0 0 6 (.known 6)), I .i64 (a : Nat), I .i64 (n : Nat), I .i64 ((k + 1 : Nat) : Int)], u, q - 1, ?_, by omega, k + 1, a, n, p, was, by omega, by omega, by omega, rfl, wfu, hsz, old, bR, bI, bC, hwl, by rw [if_pos (by omega), tk]; exact hgo⟩
          unfold f64_l1
          clear line
          generalize ((l[k].toNat : Nat) : Int) = CH at *
          generalize ((k + 1 : Nat) : Int) = K1 at *
          generalize ((l.length : Nat) : Int) = L at *
          generalize ((k : Nat) : Int) = K at *
          simp [hll, c0, c2, ac, hne, w1]
    · have c0 : ¬ ((k : Nat) : Int) ≤ ((l.length : Nat) : Int) := by omega
      rw [if_neg hkl] at hgo
      right
      refine ⟨.exit 0 [Z (.ptr R0 0), Z (.ptr I0 0)], u, ?_, (fun v hv => by cases hv), wfu, hsz, old, .inr ⟨p, was, n, rfl, bR, bI, hgo⟩⟩
      unfold f64_l1
      generalize ((l.length : Nat) : Int) = L at *
      generalize ((k : Nat) : Int) = K at *
      simp [hll, c0]) 8192 (l.length + 1) [Z (.str l), Z (.ptr R0 0), Z (.ptr I0 0), Z (.sl C0 0 6 (.known 6)), I .i64 0, I .i64 0, I .i64 0] s5 ⟨0, 0, 0, polD, List.replicate 6 false, by omega, Nat.le_refl _, Nat.le_refl _, rfl, g5.wf, Nat.le_refl _, old5, b5r, b5i, b5c, by simp, by
        rw [if_pos (Nat.zero_le _)]
        show rgo polD _ 0 (linesR l []) = _
        rw [linesR_of]
        rfl⟩ (by omega)
  obtain ⟨wft, szt, oldt, hj⟩ := hj
  have fin : ∀ u' : St, u'.wf → u'.size = τ.size → (∀ b, b ≠ R0 → u'.get b = τ.get b) → Gr s u' := fun u' w z o => ⟨w, by omega, fun b hb => by rw [o b (by omega)]; exact oldt b hb⟩
  simp only [Nat.add_assoc, Nat.reduceAdd] at e2
  rcases hj with rfl | ⟨p, was, n, rfl, bR, bI, hgo⟩
  · refine ⟨τ, ?_, wft, by omega, oldt⟩
    generalize R (d + 2) = r at *
    simp [nw1, e2, nw3, st4, nw5, lp]
  · have ld := load6 bI
    obtain ⟨u6, e6, g6⟩ := rmay_run (d + 1) wft p
    simp only [Nat.add_assoc, Nat.reduceAdd] at e6
    have hR6 : u6.get R0 = some (.cells true (cP pol0)) := by rw [g6.2.2 _ (wft.lt bR)]; exact bR
    have hI6 : u6.get I0 = some (.cells true (cP p)) := by rw [g6.2.2 _ (wft.lt bI)]; exact bI
    have ld6 := load6 hI6
    have gs6 : Gr s u6 := ⟨g6.wf, by have := g6.2.1; omega, fun b hb => by rw [g6.2.2 b (by omega)]; exact oldt b hb⟩
    cases hm : mayP p with
    | true =>
      have hq : rparseP l = (p, 0, 0) := by rw [← hgo, rgo, if_pos hm]
      rw [hm] at e6
      obtain ⟨u7, st7, ld7, w7, z7, o7⟩ := res6 u6 p hR6
      rw [hq]
      refine ⟨u7, ?_, w7 gs6.wf, by rw [z7]; exact gs6.2.1, fun b hb => by rw [o7 b (by omega)]; exact gs6.2.2 b hb⟩
      generalize R (d + 2) = r at *
      simp [nw1, e2, nw3, st4, nw5, lp, ld, e6, ld6, st7, ld7, rC, rT, retT, allV]
    | false =>
      have hq : rparseP l = (pol0, 5, 0) := by rw [← hgo, rgo, if_neg (by rw [hm]; decide)]
      rw [hm] at e6
      obtain ⟨u7, st7, ld7, w7, z7, o7⟩ := res6 u6 pol0 hR6
      rw [hq]
      have ag := agg6
      refine ⟨u7, ?_, w7 gs6.wf, by rw [z7]; exact gs6.2.1, fun b hb => by rw [o7 b (by omega)]; exact gs6.2.2 b hb⟩
      generalize R (d + 2) = r at *
      simp [nw1, e2, nw3, st4, nw5, lp, ld, e6, ag, st7, ld7, rC, rT, retT, allV]
end
end Go.Proofs.YtlhbidbdmdcdeaaGreatDoor

/-
  The document's reader of policies and the program's are one. No conditions but those named in each line.
-/
namespace Go.Proofs.YtlhbidbdmdcdeaaGreatDoor
open Go Go.Abs Go.Abs.F
set_option linter.unusedVariables false

def keyOf (j : Nat) : Bs := if j < 4 then joinB [32] [kKeep, tNames.getD j []] else if j = 4 then kSeal else kSpan
theorem keyOf_inj : ∀ j, j < 6 → ∀ k, k < 6 → keyOf j = keyOf k → j = k := by decide +kernel
theorem tNames_inj : ∀ j, j < 4 → ∀ k, k < 4 → tNames.getD j [] = tNames.getD k [] → j = k := by decide +kernel

structure Seen (was : List Bool) (seen : List Bs) : Prop where
  len : was.length = 6
  at_ : ∀ j, j < 6 → was.getD j false = decide (keyOf j ∈ seen)

theorem Seen.add {was : List Bool} {seen : List Bs} (h : Seen was seen) {j : Nat} (hj : j < 6) : Seen (was.set j true) (seen ++ [keyOf j]) := by
  refine ⟨by rw [List.length_set]; exact h.len, fun k hk => ?_⟩
  have hl := h.len
  by_cases e : k = j
  · subst e
    rw [List.getD_eq_getElem?_getD, List.getElem?_set_self (by omega), decide_eq_true (by simp)]
    rfl
  · rw [List.getD_eq_getElem?_getD, List.getElem?_set_ne (fun h => e h.symm), ← List.getD_eq_getElem?_getD, h.at_ k hk]
    refine decide_eq_decide.2 ?_
    rw [List.mem_append, List.mem_singleton]
    exact ⟨.inl, fun h => h.elim id fun h => absurd (keyOf_inj k hk j hj h) e⟩

theorem rnum_ok {w : Bs} : (0 ≤ rnumV w ↔ numOk w = true) ∧ (numOk w = true → rnumV w = (numV w : Nat)) := by
  unfold rnumV
  cases h : numOk w with
  | true => simp
  | false => simp

theorem rnum_neg {w : Bs} : (rnumV w < 0 ↔ numOk w = false) := by
  unfold rnumV
  cases h : numOk w with
  | true => simp
  | false => simp

theorem age_n (w : Bs) : (0 ≤ (if w = kEver then 0 else rnumV w) ↔ ¬ (numOk w = false ∧ w ≠ kEver)) ∧ (¬ (numOk w = false ∧ w ≠ kEver) → (if w = kEver then 0 else rnumV w) = ((numV w : Nat) : Int)) := by
  have he : numOk kEver = false := by decide
  by_cases h : w = kEver
  · subst h
    rw [if_pos rfl]
    refine ⟨by simp, fun _ => ?_⟩
    unfold numV
    rw [he]
    rfl
  · rw [if_neg h]
    have := rnum_ok (w := w)
    refine ⟨?_, fun hn => this.2 ?_⟩
    · rw [this.1]
      cases hh : numOk w <;> simp [h]
    · cases hh : numOk w with
      | true => rfl
      | false => exact absurd ⟨hh, h⟩ hn

theorem line_eq {p : Pol} {was : List Bool} {seen : List Bs} {ws : List Bs} (h : Seen was seen) :
    match rlineP p was ws with
    | none => lineP p ws = none ∨ joinB [32] ws.dropLast ∈ seen
    | some (p', was') => lineP p ws = some p' ∧ joinB [32] ws.dropLast ∉ seen ∧ Seen was' (seen ++ [joinB [32] ws.dropLast]) := by
  by_cases h3 : ws.length = 3
  · obtain ⟨w0, w1, w2, rfl⟩ : ∃ w0 w1 w2, ws = [w0, w1, w2] := by
      match ws, h3 with
      | [a, b, c], _ => exact ⟨a, b, c, rfl⟩
    by_cases hk : w0 = kKeep
    · subst hk
      have hr : rlineP p was [kKeep, w1, w2] = rkeep p was w1 (if w2 = kEver then 0 else rnumV w2) := by
        unfold rlineP
        rw [if_pos ⟨rfl, rfl⟩]
        rfl
      have hl : lineP p [kKeep, w1, w2] = if ixT w1 tNames 0 < 0 ∨ (numOk w2 = false ∧ w2 ≠ kEver) then none else some (setAge p (ixT w1 tNames 0) (numV w2 : Nat)) := by
        unfold lineP
        rw [if_pos ⟨rfl, rfl⟩]
        rfl
      rw [hr, hl]
      obtain ⟨n0, n1⟩ := age_n w2
      generalize (if w2 = kEver then 0 else rnumV w2) = n at *
      rcases ixT_range w1 tNames 0 with hx | ⟨j, hj, hx, hw⟩
      · have hno : ∀ j, j < 4 → hitAt w1 n was j = false := fun j hj => by
          unfold hitAt
          rw [decide_eq_false, Bool.false_and]
          intro e
          have : w1 ∈ tNames := by
            rw [← e, List.getD_eq_getElem?_getD, List.getElem?_eq_getElem (show j < tNames.length from hj)]
            exact List.getElem_mem _
          have := (ixT_contains w1 tNames 0).2 this
          omega
        unfold rkeep
        rw [find_none hno, hx]
        exact .inl (by rw [if_pos (.inl (by omega))])
      · rw [Nat.zero_add] at hx
        have hj4 : j < 4 := hj
        have hname : tNames.getD j [] = w1 := by rw [List.getD_eq_getElem?_getD, hw]; rfl
        have hkey : joinB [32] [kKeep, w1] = keyOf j := by
          unfold keyOf
          rw [if_pos hj4, hname]
        have hother : ∀ k, k < 4 → k ≠ j → hitAt w1 n was k = false := fun k hk hne => by
          unfold hitAt
          rw [decide_eq_false, Bool.false_and]
          intro e
          exact hne (tNames_inj k hk j hj4 (by rw [e, hname]))
        have hat := h.at_ j (by omega)
        show match rkeep p was w1 n with
          | none => _ ∨ joinB [32] [kKeep, w1] ∈ seen
          | some (p', was') => _ ∧ joinB [32] [kKeep, w1] ∉ seen ∧ Seen was' (seen ++ [joinB [32] [kKeep, w1]])
        rw [hkey, hx]
        unfold rkeep
        by_cases hn : 0 ≤ n
        · have hn' := n0.1 hn
          by_cases hs : keyOf j ∈ seen
          · have : hitAt w1 n was j = false := by
              unfold hitAt
              rw [hat, decide_eq_true hs]
              simp
            rw [find_none (fun k hk => by
              by_cases e : k = j
              · rw [e]; exact this
              · exact hother k hk e)]
            exact .inr hs
          · have : hitAt w1 n was j = true := by
              unfold hitAt
              rw [hat, decide_eq_false hs, decide_eq_true hname, decide_eq_true hn]
              rfl
            rw [find_hit hj4 (fun k hk => hother k (by omega) (by omega)) this]
            refine ⟨?_, hs, h.add (by omega)⟩
            rw [if_neg (fun hh => hh.elim (fun hh => by omega) hn'), n1 hn']
        · have : hitAt w1 n was j = false := by
            unfold hitAt
            rw [decide_eq_false hn]
            simp
          rw [find_none (fun k hk => by
            by_cases e : k = j
            · rw [e]; exact this
            · exact hother k hk e)]
          refine .inl (if_pos (.inr ?_))
          exact Classical.byContradiction fun hh => hn (n0.2 hh)
    · have hr : rlineP p was [w0, w1, w2] = none := by
        unfold rlineP
        rw [if_neg (fun h => hk h.2), if_pos (.inl (by simp))]
      have hl : lineP p [w0, w1, w2] = none := by
        unfold lineP
        rw [if_neg (fun h => hk h.1), if_neg (fun h => by simp at h), if_neg (fun h => by simp at h)]
      rw [hr, hl]
      exact .inl rfl
  · by_cases h2 : ws.length = 2
    · obtain ⟨w0, w1, rfl⟩ : ∃ w0 w1, ws = [w0, w1] := by
        match ws, h2 with
        | [a, b], _ => exact ⟨a, b, rfl⟩
      have hr : rlineP p was [w0, w1] = if rnumV w1 < 0 then none else if w0 = kSeal ∧ was.getD 4 false = false then some ({ p with c := rnumV w1 }, was.set 4 true) else if w0 = kSpan ∧ was.getD 5 false = false then some ({ p with n := rnumV w1 }, was.set 5 true) else none := by
        unfold rlineP
        rw [if_neg (fun h => by simp at h)]
        by_cases hneg : rnumV w1 < 0
        · rw [if_pos (.inr hneg), if_pos hneg]
        · rw [if_neg (fun h => h.elim (fun h => h rfl) hneg), if_neg hneg]
          rfl
      have hl : lineP p [w0, w1] = if w0 = kSeal ∧ numOk w1 = true then some { p with c := (numV w1 : Nat) } else if w0 = kSpan ∧ numOk w1 = true then some { p with n := (numV w1 : Nat) } else none := by
        unfold lineP
        rw [if_neg (fun h => by simp at h)]
        simp
      show match rlineP p was [w0, w1] with
        | none => _ ∨ joinB [32] [w0] ∈ seen
        | some (p', was') => _ ∧ joinB [32] [w0] ∉ seen ∧ Seen was' (seen ++ [joinB [32] [w0]])
      rw [hr, hl]
      have h4 := h.at_ 4 (by omega)
      have h5 := h.at_ 5 (by omega)
      have k4 : keyOf 4 = kSeal := rfl
      have k5 : keyOf 5 = kSpan := rfl
      have j1 : joinB [32] [w0] = w0 := rfl
      rw [j1]
      have hsp : w0 = kSeal → ¬ w0 = kSpan := fun h h' => by rw [h] at h'; exact absurd h' (by decide)
      by_cases hneg : rnumV w1 < 0
      · have hno := rnum_neg.1 hneg
        rw [if_pos hneg]
        exact .inl (by rw [if_neg (fun h => by rw [hno] at h; cases h.2), if_neg (fun h => by rw [hno] at h; cases h.2)])
      · have hok : numOk w1 = true := by
          cases hh : numOk w1 with
          | true => rfl
          | false => exact absurd (rnum_neg.2 hh) hneg
        have hv := rnum_ok.2 hok
        rw [if_neg hneg, hv]
        by_cases hs : w0 = kSeal
        · by_cases hm : kSeal ∈ seen
          · rw [k4, decide_eq_true hm] at h4
            rw [if_neg (fun hh => by rw [h4] at hh; cases hh.2), if_neg (fun hh => hsp hs hh.1)]
            exact .inr (by rw [hs]; exact hm)
          · rw [k4, decide_eq_false hm] at h4
            rw [if_pos ⟨hs, h4⟩]
            refine ⟨by rw [if_pos ⟨hs, hok⟩], by rw [hs]; exact hm, ?_⟩
            rw [hs, ← k4]
            exact h.add (by omega)
        · rw [if_neg (fun hh => hs hh.1)]
          by_cases hp : w0 = kSpan
          · by_cases hm : kSpan ∈ seen
            · rw [k5, decide_eq_true hm] at h5
              rw [if_neg (fun hh => by rw [h5] at hh; cases hh.2)]
              exact .inr (by rw [hp]; exact hm)
            · rw [k5, decide_eq_false hm] at h5
              rw [if_pos ⟨hp, h5⟩]
              refine ⟨by rw [if_neg (fun hh => hs hh.1), if_pos ⟨hp, hok⟩], by rw [hp]; exact hm, ?_⟩
              rw [hp, ← k5]
              exact h.add (by omega)
          · rw [if_neg (fun hh => hp hh.1)]
            exact .inl (by rw [if_neg (fun hh => hs hh.1), if_neg (fun hh => hp hh.1)])
    · have hr : rlineP p was ws = none := by
        unfold rlineP
        rw [if_neg (fun h => h3 h.1), if_pos (.inl h2)]
      have hl : lineP p ws = none := by
        unfold lineP
        rw [if_neg (fun h => h3 h.2), if_neg (fun h => h2 h.2.1), if_neg (fun h => h2 h.2.1)]
      rw [hr, hl]
      exact .inl rfl

theorem rgo_eq : ∀ (ls : List Bs) (p : Pol) (was : List Bool) (seen : List Bs) (k : Nat), Seen was seen → rgo p was k ls = parseGo p seen k ls
  | [], p, was, seen, k, h => rfl
  | x :: r, p, was, seen, k, h => by
    unfold rgo parseGo
    by_cases hw : wordsOf x = []
    · rw [if_pos hw, if_pos hw]
      exact rgo_eq r p was seen (k + 1) h
    · rw [if_neg hw, if_neg hw]
      have hl := line_eq (p := p) (ws := wordsOf x) h
      cases hr : rlineP p was (wordsOf x) with
      | none =>
        rw [hr] at hl
        rcases hl with hl | hl
        · rw [hl]; rfl
        · simp only [if_pos hl]
          split <;> rfl
      | some pw =>
        obtain ⟨p', was'⟩ := pw
        rw [hr] at hl
        obtain ⟨h1, h2, h3⟩ := hl
        rw [h1]
        simp only [if_neg h2]
        exact rgo_eq r p' was' _ (k + 1) h3

/-- Both readers read the same. -/
theorem rparseP_eq (l : Bs) : rparseP l = parseP l := rgo_eq _ _ _ _ _ ⟨rfl, by decide +kernel⟩
end Go.Proofs.YtlhbidbdmdcdeaaGreatDoor
