/-
  Several texts in one: what functions that the law reaches compute. No conditions but those named in each line.
-/
import Derived.Test.YtlhbidbdmdcdeaaGreatDoorFnsB
import Derived.Test.YtlhbidbdmdcdeaaGreatDoorFnsA
/-
  Entries: what entry.May, Put and Same compute, in any store. No conditions but those named in each line.
-/
namespace Go.Proofs.YtlhbidbdmdcdeaaGreatDoor
open Go Go.Abs Go.Abs.F
set_option linter.unusedVariables false

structure Ent where
  k : Int
  v : Int
  i : Int
  t : Int
  f : Int
  o : Int
  u : Int
  x : Bs
  deriving DecidableEq

def cE (e : Ent) : List S := [.int .i64 e.k, .int .i64 e.v, .int .i64 e.i, .int .i64 e.t, .int .i64 e.f, .int .i64 e.o, .int .u32 e.u, .str e.x]
abbrev AE (e : Ent) : T := .v (.agg (cE e))
def ent0 : Ent := ⟨0, 0, 0, 0, 0, 0, 0, []⟩
theorem cE_len (e : Ent) : (cE e).length = 8 := rfl

def idOk (n : Int) : Bool := decide (1 ≤ n) && decide (n ≤ 1073741824)
def mayE (e : Ent) : Bool :=
  if e.v < 0 ∨ 1073741824 < e.v then false
  else if e.k = 1 then decide (e.x = []) && idOk e.i && decide (0 ≤ e.t) && decide (e.t < 4) && decide (0 ≤ e.f) && decide (e.f < e.o) && decide (e.o ≤ 1099511627776)
  else if e.k = 2 then idOk e.i && decide (e = { ent0 with k := 2, v := e.v, i := e.i })
  else if e.k = 3 then decide (0 < e.v) && decide (e = { ent0 with k := 3, v := e.v })
  else if e.k = 4 then decide (e.x.length ≤ 300) && decide (e = { ent0 with k := 4, v := e.v, x := e.x }) && decide ((parseP e.x).2.1 = 0)
  else false

section
variable {s t : St} {x y : S} {l : Bs} {i : Nat}

theorem eqE (a b : Ent) : aEq (.a 8 [(0, .i), (1, .i), (2, .i), (3, .i), (4, .i), (5, .i), (6, .i), (7, .s)]) (AE a) (AE b) = some (decide (a = b)) := by
  obtain ⟨a1, a2, a3, a4, a5, a6, a7, a8⟩ := a
  obtain ⟨b1, b2, b3, b4, b5, b6, b7, b8⟩ := b
  show some (decide (a1 = b1) && (decide (a2 = b2) && (decide (a3 = b3) && (decide (a4 = b4) && (decide (a5 = b5) && (decide (a6 = b6) && (decide (a7 = b7) && (decide (a8 = b8) && true)))))))) = some (decide (Ent.mk a1 a2 a3 a4 a5 a6 a7 a8 = Ent.mk b1 b2 b3 b4 b5 b6 b7 b8))
  simp only [Ent.mk.injEq, Bool.and_true, Bool.decide_and]

theorem eqBE (a b : Ent) : eqB (.a 8 [(0, .i), (1, .i), (2, .i), (3, .i), (4, .i), (5, .i), (6, .i), (7, .s)]) (AE a) (AE b) = some (B (decide (a = b))) := by
  simp only [eqB, eqE]
theorem neBE (a b : Ent) : neB (.a 8 [(0, .i), (1, .i), (2, .i), (3, .i), (4, .i), (5, .i), (6, .i), (7, .s)]) (AE a) (AE b) = some (B (!decide (a = b))) := by
  simp only [neB, eqE]

theorem load8 {i : Nat} {w : Bool} {e : Ent} {g : Mem} (h : g i = some (.cells w (cE e))) : aLoadN 8 (Z (.ptr i 0)) g = some (AE e) := by
  simp [aLoadN, h, cE]
theorem store8 {i : Nat} {vs : List S} {e : Ent} (h : s.get i = some (.cells true vs)) (hv : vs.length = 8) : aStore 8 (Z (.ptr i 0)) (AE e) s = some (tt, s.set i (.cells true (cE e))) := by
  have hb : (V.agg (cE e)).cells.length = 8 ∧ 0 + 8 ≤ vs.length := ⟨rfl, by omega⟩
  simp only [aStore, h, if_pos hb]
  rw [show (V.agg (cE e)).cells = cE e from rfl, setRange_all (by rw [hv]; rfl)]
theorem agg8 : asAggT (aFill [.int .i64 0, .int .i64 0, .int .i64 0, .int .i64 0, .int .i64 0, .int .i64 0, .int .u32 0, .str []] []) = some (AE ent0) := rfl

theorem same_run (d : Nat) (wf : s.wf) (a b : Ent) : ∃ t, R (d + 1) 39 [AE a, AE b] s = some (B (decide (a = b)), t) ∧ Gr s t := by
  rw [f39_run]
  unfold f39
  obtain ⟨s1, hs1⟩ : ∃ s1, s1 = s.push (.cells true (cE a)) := ⟨_, rfl⟩
  have nw1 : aNew s (nBox (AE a)) = some (Z (.ptr s.size 0), s1) := by rw [hs1]; rfl
  have g1 : Gr s s1 := by rw [hs1]; exact Gr.push wf _
  have h1 : s1.get s.size = some (.cells true (cE a)) := by rw [hs1]; exact St.get_push_same _ _
  obtain ⟨s2, hs2⟩ : ∃ s2, s2 = s1.push (.cells true (cE b)) := ⟨_, rfl⟩
  have nw2 : aNew s1 (nBox (AE b)) = some (Z (.ptr s1.size 0), s2) := by rw [hs2]; rfl
  have g2 : Gr s1 s2 := by rw [hs2]; exact Gr.push g1.wf _
  have h2 : s2.get s1.size = some (.cells true (cE b)) := by rw [hs2]; exact St.get_push_same _ _
  have l1 := load8 (g := s2.get) (g2.get h1 g1.wf)
  have l2 := load8 (g := s2.get) h2
  have e := eqBE a b
  exact ⟨s2, by simp [nw1, nw2, l1, l2, e], g1.trans g2⟩

theorem id_run (d : Nat) (n : Int) : R (d + 1) 50 [I .i64 n] s = some (B (idOk n), s) := by
  rw [f50_run]
  unfold f50
  by_cases h : 1 ≤ n
  · simp [idOk, h]
  · simp [idOk, h]

theorem mayE_run (d : Nat) (wf : s.wf) (e : Ent) : ∃ t, R (d + 8) 30 [AE e] s = some (B (mayE e), t) ∧ Gr s t := by
  rw [f30_run]
  unfold f30
  obtain ⟨s1, hs1⟩ : ∃ s1, s1 = s.push (.cells true (cE e)) := ⟨_, rfl⟩
  have nw1 : aNew s (nBox (AE e)) = some (Z (.ptr s.size 0), s1) := by rw [hs1]; rfl
  have g1 : Gr s s1 := by rw [hs1]; exact Gr.push wf _
  have h1 : s1.get s.size = some (.cells true (cE e)) := by rw [hs1]; exact St.get_push_same _ _
  have l0 : aLoad1 (Z (.ptr s.size 0)) s1.get = some (I .i64 e.k) := aLoad1_of h1 rfl
  have l1 : aLoad1 (Z (.ptr s.size 1)) s1.get = some (I .i64 e.v) := aLoad1_of h1 rfl
  have l2 : aLoad1 (Z (.ptr s.size 2)) s1.get = some (I .i64 e.i) := aLoad1_of h1 rfl
  have l3 : aLoad1 (Z (.ptr s.size 3)) s1.get = some (I .i64 e.t) := aLoad1_of h1 rfl
  have l4 : aLoad1 (Z (.ptr s.size 4)) s1.get = some (I .i64 e.f) := aLoad1_of h1 rfl
  have l5 : aLoad1 (Z (.ptr s.size 5)) s1.get = some (I .i64 e.o) := aLoad1_of h1 rfl
  have l7 : aLoad1 (Z (.ptr s.size 7)) s1.get = some (Z (.str e.x)) := aLoad1_of h1 rfl
  have l8 := load8 (g := s1.get) h1
  have eid := id_run (s := s1) (d + 6) e.i
  simp only [Nat.add_assoc, Nat.reduceAdd] at eid
  by_cases c1 : e.v < 0
  · refine ⟨s1, ?_, g1⟩
    have hm : mayE e = false := by simp [mayE, c1]
    rw [hm]
    simp [nw1, l1, c1]
  · by_cases c2 : 1073741824 < e.v
    · refine ⟨s1, ?_, g1⟩
      have hm : mayE e = false := by simp [mayE, c2]
      rw [hm]
      simp [nw1, l1, c1, c2]
    · have hv : ¬ (e.v < 0 ∨ 1073741824 < e.v) := fun h => h.elim c1 c2
      by_cases k1 : e.k = 1
      · have hm : mayE e = (decide (e.x = []) && idOk e.i && decide (0 ≤ e.t) && decide (e.t < 4) && decide (0 ≤ e.f) && decide (e.f < e.o) && decide (e.o ≤ 1099511627776)) := by
          unfold mayE; rw [if_neg hv, if_pos k1]
        rw [hm]
        refine ⟨s1, ?_, g1⟩
        by_cases d1 : e.x = []
        · cases d2 : idOk e.i with
          | true =>
            rw [d2] at eid
            by_cases d3 : 0 ≤ e.t
            · by_cases d4 : e.t < 4
              · by_cases d5 : 0 ≤ e.f
                · by_cases d6 : e.f < e.o
                  · simp [nw1, l0, l1, l2, l3, l4, l5, l7, c1, c2, k1, d1, eid, d3, d4, d5, d6]
                  · simp [nw1, l0, l1, l2, l3, l4, l5, l7, c1, c2, k1, d1, eid, d3, d4, d5, d6]
                · simp [nw1, l0, l1, l2, l3, l4, l5, l7, c1, c2, k1, d1, eid, d3, d4, d5]
              · simp [nw1, l0, l1, l2, l3, l4, l5, l7, c1, c2, k1, d1, eid, d3, d4]
            · simp [nw1, l0, l1, l2, l3, l4, l5, l7, c1, c2, k1, d1, eid, d3]
          | false =>
            rw [d2] at eid
            simp [nw1, l0, l1, l2, l3, l4, l5, l7, c1, c2, k1, d1, eid]
        · simp [nw1, l0, l1, l2, l3, l4, l5, l7, c1, c2, k1, d1]
      · by_cases k2 : e.k = 2
        · have hm : mayE e = (idOk e.i && decide (e = { ent0 with k := 2, v := e.v, i := e.i })) := by
            unfold mayE; rw [if_neg hv, if_neg k1, if_pos k2]
          rw [hm]
          refine ⟨s1, ?_, g1⟩
          have ag : asAggT (aFill [.int .i64 0, .int .i64 0, .int .i64 0, .int .i64 0, .int .i64 0, .int .i64 0, .int .u32 0, .str []] [(0, 1, (I .i64 2)), (1, 1, I .i64 e.v), (2, 1, I .i64 e.i)]) = some (AE { ent0 with k := 2, v := e.v, i := e.i }) := rfl
          have eq := eqBE e { ent0 with k := 2, v := e.v, i := e.i }
          generalize hD : decide (e = { ent0 with k := 2, v := e.v, i := e.i }) = D at *
          generalize ({ ent0 with k := 2, v := e.v, i := e.i } : Ent) = e2 at *
          cases d2 : idOk e.i with
          | true =>
            rw [d2] at eid
            simp [nw1, l0, l1, l2, l8, c1, c2, k2, eid, ag, eq]
          | false =>
            rw [d2] at eid
            simp [nw1, l0, l1, l2, l8, c1, c2, k2, eid]
        · by_cases k3 : e.k = 3
          · have hm : mayE e = (decide (0 < e.v) && decide (e = { ent0 with k := 3, v := e.v })) := by
              unfold mayE; rw [if_neg hv, if_neg k1, if_neg k2, if_pos k3]
            rw [hm]
            refine ⟨s1, ?_, g1⟩
            have ag : asAggT (aFill [.int .i64 0, .int .i64 0, .int .i64 0, .int .i64 0, .int .i64 0, .int .i64 0, .int .u32 0, .str []] [(0, 1, (I .i64 3)), (1, 1, I .i64 e.v)]) = some (AE { ent0 with k := 3, v := e.v }) := rfl
            have eq := eqBE e { ent0 with k := 3, v := e.v }
            generalize hD : decide (e = { ent0 with k := 3, v := e.v }) = D at *
            generalize ({ ent0 with k := 3, v := e.v } : Ent) = e2 at *
            by_cases d1 : 0 < e.v
            · simp [nw1, l0, l1, l8, c1, c2, k3, d1, ag, eq]
            · simp [nw1, l0, l1, l8, c1, c2, k3, d1]
          · by_cases k4 : e.k = 4
            · have hm : mayE e = (decide (e.x.length ≤ 300) && decide (e = { ent0 with k := 4, v := e.v, x := e.x }) && decide ((parseP e.x).2.1 = 0)) := by
                unfold mayE; rw [if_neg hv, if_neg k1, if_neg k2, if_neg k3, if_pos k4]
              rw [hm]
              have ag : asAggT (aFill [.int .i64 0, .int .i64 0, .int .i64 0, .int .i64 0, .int .i64 0, .int .i64 0, .int .u32 0, .str []] [(0, 1, (I .i64 4)), (1, 1, I .i64 e.v), (7, 1, Z (.str e.x))]) = some (AE { ent0 with k := 4, v := e.v, x := e.x }) := rfl
              have eq := neBE e { ent0 with k := 4, v := e.v, x := e.x }
              generalize hD : decide (e = { ent0 with k := 4, v := e.v, x := e.x }) = D at *
              generalize ({ ent0 with k := 4, v := e.v, x := e.x } : Ent) = e2 at *
              by_cases d1 : e.x.length ≤ 300
              · have d1' : ¬ (300 : Int) < (e.x.length : Int) := by omega
                cases D with
                | false =>
                  refine ⟨s1, ?_, g1⟩
                  simp [nw1, l0, l1, l7, l8, c1, c2, k4, d1', ag, eq]
                | true =>
                  obtain ⟨s2, e2', g2⟩ := parse_run (l := e.x) d g1.wf (by omega)
                  obtain ⟨s3, hs3⟩ : ∃ s3, s3 = s2.push (.cells true (cP pol0)) := ⟨_, rfl⟩
                  have nw3 : aNew s2 (nCells [.int .i64 0, .int .i64 0, .int .i64 0, .int .i64 0, .int .i64 0, .int .i64 0]) = some (Z (.ptr s2.size 0), s3) := by rw [hs3]; rfl
                  have g3 : Gr s2 s3 := by rw [hs3]; exact Gr.push g2.wf _
                  have st := store6 (p := (parseP e.x).1) (s := s3) (i := s2.size) (vs := cP pol0) (by rw [hs3]; exact St.get_push_same _ _) rfl
                  refine ⟨s3.set s2.size (.cells true (cP (parseP e.x).1)), ?_, g1.trans (g2.trans ⟨St.wf_set g3.wf (by rw [hs3]; simp) _, by simp; exact g3.2.1, fun b hb => by rw [St.get_set_ne _ _ (by omega)]; exact g3.2.2 b hb⟩)⟩
                  generalize R (d + 7) = r at *
                  simp [nw1, l0, l1, l7, l8, c1, c2, k4, d1', d1, ag, eq, e2', aExtract, nw3, st]
              · have d1' : (300 : Int) < (e.x.length : Int) := by omega
                refine ⟨s1, ?_, g1⟩
                simp [nw1, l0, l1, l7, c1, c2, k4, d1', d1]
            · have hm : mayE e = false := by unfold mayE; rw [if_neg hv, if_neg k1, if_neg k2, if_neg k3, if_neg k4]
              rw [hm]
              refine ⟨s1, ?_, g1⟩
              simp [nw1, l0, l1, c1, c2, k1, k2, k3, k4]

/-! ### Put -/

def nums (e : Ent) : List Nat :=
  if e.k = 1 then [e.i.toNat, e.t.toNat, e.f.toNat, e.o.toNat, e.u.toNat] else if e.k = 2 then [e.i.toNat] else if e.k = 4 then [e.x.length] else []
def putNs : List Nat → Bs
  | [] => []
  | n :: r => vput n ++ putNs r
def putB (e : Ent) : Bs := UInt8.ofNat e.k.toNat :: (vput e.v.toNat ++ putNs (nums e) ++ e.x)
def putE (e : Ent) : Option Bs := if mayE e then some (putB e) else none

def u64S (l : List Nat) : List S := l.map fun n : Nat => S.int .u64 ((n : Nat) : Int)
@[simp] theorem u64S_len (l : List Nat) : (u64S l).length = l.length := by simp [u64S]

theorem putNs_len : ∀ l : List Nat, (putNs l).length ≤ 11 * l.length
  | [] => by simp [putNs]
  | n :: r => by have := vput_len n; have := putNs_len r; simp [putNs]; omega
theorem putNs_snoc : ∀ (l : List Nat) (n : Nat), putNs (l ++ [n]) = putNs l ++ vput n
  | [], n => by simp [putNs]
  | m :: r, n => by simp [putNs, putNs_snoc r n]

theorem nums_len (e : Ent) : (nums e).length ≤ 5 := by
  unfold nums
  split
  · simp
  · split
    · simp
    · split <;> simp

theorem nums_loop (d : Nat) {s0 : St} {v0 : T} {acc : Bs} {ns : List Nat} (hb : FB s0 s y acc) (hx : Rd 1 s x ns.length (u64S ns)) (hox : ∀ c, own x = some c → c < s.size ∧ own y ≠ some c ∧ s0.size ≤ c) (hn : ∀ n ∈ ns, n < 2 ^ 64) (hl : ns.length ≤ 5) (ha : acc.length ≤ 1000) :
    ∃ (z : S) (τ : St), loops (f31_l1 (R (d + 1)) 8192) 8192 [v0, Z y, Z x, I .i64 ns.length, I .i64 0] s = some (.exit 1 [v0, Z z], τ) ∧ FB s0 τ z (acc ++ putNs ns) := by
  obtain ⟨j, τ, lp, z, rfl, hf⟩ := loops_inv (f := f31_l1 (R (d + 1)) 8192) (fun q v u => ∃ (k : Nat) (z : S), q + k = ns.length ∧ v = [v0, Z z, Z x, I .i64 ns.length, I .i64 k] ∧ FB s0 u z (acc ++ putNs (ns.take k)) ∧ Rd 1 u x ns.length (u64S ns) ∧ (∀ c, own x = some c → c < u.size ∧ own z ≠ some c))
    (fun j u => ∃ z, j = .exit 1 [v0, Z z] ∧ FB s0 u z (acc ++ putNs ns)) (by
    rintro q v u ⟨k, z, hk, rfl, hf, hr, ho⟩
    by_cases hkl : k < ns.length
    · left
      have hc : ns[k]? = some ns[k] := List.getElem?_eq_getElem hkl
      obtain ⟨p, ix, ld⟩ := Rd.at1 hr (n := ns.length) (i := (k : Int)) (v := .int .u64 (ns[k] : Int)) rfl (by simp [u64S, hc])
      have c0 : (k : Int) < (ns.length : Int) := by omega
      have w1 : IntKind.i64.wrap ((k : Int) + 1) = ((k + 1 : Nat) : Int) := by rw [wrap_in _ (by omega) (by omega)]; omega
      have htk : ns.take (k + 1) = ns.take k ++ [ns[k]] := by rw [List.take_add_one, hc]; rfl
      obtain ⟨p1, u1, e1, f1⟩ := vput_run d hf.gr.wf ns[k] (hn _ (List.getElem_mem hkl))
      have hf1 : FB s0 u1 z (acc ++ putNs (ns.take k)) := hf.gr' f1.gr
      have hpl : (putNs (ns.take k)).length ≤ 55 := by have := putNs_len (ns.take k); rw [List.length_take] at this; omega
      obtain ⟨z2, u2, ap, hf2, hz2, keep2, new2⟩ := FB.app' hf1 f1.rd (by have := vput_len ns[k]; simp; omega)
      have hr2 : Rd 1 u2 x ns.length (u64S ns) := hr.keep fun c hc' => by rw [keep2 c (Nat.lt_of_lt_of_le (ho c hc').1 f1.gr.2.1) (ho c hc').2, f1.gr.2.2 c (ho c hc').1]
      have ho2 : ∀ c, own x = some c → c < u2.size ∧ own z2 ≠ some c := fun c hc' => by
        have h1 := (ho c hc').1
        have h2 := f1.gr.2.1
        refine ⟨by omega, fun e => ?_⟩
        rcases new2 with n | n | ⟨c', n, hc2⟩
        · rw [n] at e; cases e
        · rw [n] at e; exact (ho c hc').2 e
        · rw [n] at e; cases e; omega
      refine ⟨[v0, Z z2, Z x, I .i64 ns.length, I .i64 ((k + 1 : Nat) : Int)], u2, q - 1, ?_, by omega, k + 1, z2, by omega, rfl, by rw [htk, putNs_snoc, ← List.append_assoc]; exact hf2, hr2, ho2⟩
      unfold f31_l1
      generalize R (d + 1) = r at *
      generalize ((k + 1 : Nat) : Int) = K1 at w1 ⊢
      generalize (k : Int) = K at *
      generalize (ns[k] : Int) = NK at *
      generalize (ns.length : Int) = L at *
      simp [c0, ix, ld, e1, ap, w1]
    · right
      have hk' : k = ns.length := by omega
      subst hk'
      rw [List.take_length] at hf
      refine ⟨.exit 1 [v0, Z z], u, ?_, (fun v hv => by cases hv), z, rfl, hf⟩
      unfold f31_l1
      simp) 8192 ns.length [v0, Z y, Z x, I .i64 ns.length, I .i64 0] s ⟨0, y, by omega, rfl, by simpa [putNs] using hb, hx, fun c hc => ⟨(hox c hc).1, (hox c hc).2.1⟩⟩ (by omega)
  exact ⟨z, τ, lp, hf⟩

/-- An entry whose numbers are of their kinds. -/
def EWf (e : Ent) : Prop := 0 ≤ e.u ∧ e.u < 4294967296

theorem mayE_range {e : Ent} (h : mayE e = true) : 0 ≤ e.v ∧ e.v ≤ 1073741824 ∧ 1 ≤ e.k ∧ e.k ≤ 4 ∧ (e.k = 1 → e.x = [] ∧ 1 ≤ e.i ∧ e.i ≤ 1073741824 ∧ 0 ≤ e.t ∧ e.t < 4 ∧ 0 ≤ e.f ∧ e.f < e.o ∧ e.o ≤ 1099511627776) ∧
    (e.k = 2 → 1 ≤ e.i ∧ e.i ≤ 1073741824 ∧ e = { ent0 with k := 2, v := e.v, i := e.i }) ∧ (e.k = 3 → 0 < e.v ∧ e = { ent0 with k := 3, v := e.v }) ∧ (e.k = 4 → e.x.length ≤ 300 ∧ e = { ent0 with k := 4, v := e.v, x := e.x } ∧ (parseP e.x).2.1 = 0) := by
  unfold mayE at h
  split at h
  · cases h
  · rename_i hv
    have hv' : 0 ≤ e.v ∧ e.v ≤ 1073741824 := by omega
    refine ⟨hv'.1, hv'.2, ?_⟩
    by_cases k1 : e.k = 1
    · rw [if_pos k1] at h
      simp only [Bool.and_eq_true, decide_eq_true_eq, idOk] at h
      refine ⟨by omega, by omega, fun _ => ?_, (fun h2 => by omega), (fun h2 => by omega), (fun h2 => by omega)⟩
      obtain ⟨⟨⟨⟨⟨⟨a, b, b'⟩, c⟩, d⟩, f⟩, g⟩, o⟩ := h
      exact ⟨a, b, b', c, d, f, g, o⟩
    · rw [if_neg k1] at h
      by_cases k2 : e.k = 2
      · rw [if_pos k2] at h
        simp only [Bool.and_eq_true, decide_eq_true_eq, idOk] at h
        exact ⟨by omega, by omega, (fun h2 => by omega), fun _ => ⟨h.1.1, h.1.2, h.2⟩, (fun h2 => by omega), (fun h2 => by omega)⟩
      · rw [if_neg k2] at h
        by_cases k3 : e.k = 3
        · rw [if_pos k3] at h
          simp only [Bool.and_eq_true, decide_eq_true_eq] at h
          exact ⟨by omega, by omega, (fun h2 => by omega), (fun h2 => by omega), fun _ => h, (fun h2 => by omega)⟩
        · rw [if_neg k3] at h
          by_cases k4 : e.k = 4
          · rw [if_pos k4] at h
            simp only [Bool.and_eq_true, decide_eq_true_eq] at h
            exact ⟨by omega, by omega, (fun h2 => by omega), (fun h2 => by omega), (fun h2 => by omega), fun _ => ⟨h.1.1, h.1.2, h.2⟩⟩
          · rw [if_neg k4] at h
            cases h

theorem nums_lt {e : Ent} (h : mayE e = true) (hw : EWf e) : ∀ n ∈ nums e, n < 2 ^ 64 := by
  obtain ⟨_, _, _, _, h1, h2, _, h4⟩ := mayE_range h
  have := hw.2
  intro n hn
  unfold nums at hn
  split at hn
  · rename_i k
    have := h1 k
    simp at hn
    rcases hn with rfl | rfl | rfl | rfl | rfl <;> omega
  · split at hn
    · rename_i k
      have := h2 k
      simp at hn
      omega
    · split at hn
      · rename_i k
        have := h4 k
        simp at hn
        omega
      · cases hn

theorem putB_len {e : Ent} (h : e.x.length ≤ 300) : (putB e).length ≤ 400 := by
  have h1 := vput_len e.v.toNat
  have h2 := putNs_len (nums e)
  have h3 := nums_len e
  simp [putB]
  omega
theorem mayE_x {e : Ent} (h : mayE e = true) : e.x.length ≤ 300 := by
  obtain ⟨_, _, k1, k4, h1, h2, h3, h4⟩ := mayE_range h
  by_cases e1 : e.k = 1
  · rw [(h1 e1).1]; simp
  · by_cases e2 : e.k = 2
    · rw [(h2 e2).2.2]; simp [ent0]
    · by_cases e3 : e.k = 3
      · rw [(h3 e3).2]; simp [ent0]
      · exact (h4 (by omega)).1

theorem put_bad (d : Nat) (wf : s.wf) {e : Ent} (h : mayE e = false) : ∃ t, R (d + 9) 31 [AE e] s = some (.tup [.s .nils, .s (.int .i64 1)], t) ∧ Gr s t := by
  rw [f31_run]
  unfold f31
  obtain ⟨s1, hs1⟩ : ∃ s1, s1 = s.push (.cells true (cE e)) := ⟨_, rfl⟩
  have nw1 : aNew s (nBox (AE e)) = some (Z (.ptr s.size 0), s1) := by rw [hs1]; rfl
  have g1 : Gr s s1 := by rw [hs1]; exact Gr.push wf _
  have h1 : s1.get s.size = some (.cells true (cE e)) := by rw [hs1]; exact St.get_push_same _ _
  have l8 := load8 (g := s1.get) h1
  obtain ⟨s2, e2, g2⟩ := mayE_run d g1.wf e
  rw [h] at e2
  exact ⟨s2, by simp [nw1, l8, e2, retT, allV], g1.trans g2⟩

theorem put_run (d : Nat) (wf : s.wf) {e : Ent} (h : mayE e = true) (hw : EWf e) : ∃ y t, R (d + 9) 31 [AE e] s = some (.tup [.s y, .s (.int .i64 0)], t) ∧ FB s t y (putB e) := by
  rw [f31_run]
  unfold f31
  obtain ⟨r1, r2, r3, r4, hk1, hk2, hk3, hk4⟩ := mayE_range h
  obtain ⟨s1, hs1⟩ : ∃ s1, s1 = s.push (.cells true (cE e)) := ⟨_, rfl⟩
  have nw1 : aNew s (nBox (AE e)) = some (Z (.ptr s.size 0), s1) := by rw [hs1]; rfl
  have g1 : Gr s s1 := by rw [hs1]; exact Gr.push wf _
  have h1 : s1.get s.size = some (.cells true (cE e)) := by rw [hs1]; exact St.get_push_same _ _
  have z1 : s1.size = s.size + 1 := by rw [hs1]; rfl
  have l8 := load8 (g := s1.get) h1
  obtain ⟨s2, e2, g2⟩ := mayE_run d g1.wf e
  rw [h] at e2
  have h2 : s2.get s.size = some (.cells true (cE e)) := g2.get h1 g1.wf
  have hz2 : s.size + 1 ≤ s2.size := by have := g2.2.1; omega
  have lk : aLoad1 (Z (.ptr s.size 0)) s2.get = some (I .i64 e.k) := aLoad1_of h2 rfl
  have wk : IntKind.u8.wrap e.k = ((UInt8.ofNat e.k.toNat).toNat : Int) := by
    have := wrap8 e.k.toNat
    rw [show ((e.k.toNat : Nat) : Int) = e.k by omega] at this
    rw [this, byte_nat]
  obtain ⟨kb, hkb⟩ : ∃ kb, kb = UInt8.ofNat e.k.toNat := ⟨_, rfl⟩
  rw [← hkb] at wk
  obtain ⟨s4, hs4⟩ : ∃ s4, s4 = s2.push (.cells true (U [kb])) := ⟨_, rfl⟩
  have nw4 : aNew s2 (nSlice 1 (aFill [.int .u8 0] [(0, 1, I .u8 kb.toNat)])) = some (Z (.sl s2.size 0 1 (.known 1)), s4) := by rw [hs4, lit1]; rfl
  have f4 : FB s2 s4 (.sl s2.size 0 1 (.known 1)) [kb] := by rw [hs4]; exact Fr.lit 1 g2.wf rfl
  have h4 : s4.get s.size = some (.cells true (cE e)) := f4.gr.get h2 g2.wf
  have lv : aLoad1 (Z (.ptr s.size 1)) s4.get = some (I .i64 e.v) := aLoad1_of h4 rfl
  have wv : IntKind.u64.wrap e.v = (e.v.toNat : Int) := by rw [wrap_u64_in _ (by omega) (by omega)]; omega
  obtain ⟨y5, s5, e5, f5⟩ := vput_run (d + 7) f4.gr.wf e.v.toNat (by omega)
  have h5 : s5.get s.size = some (.cells true (cE e)) := f5.gr.get h4 f4.gr.wf
  have lk5 : aLoad1 (Z (.ptr s.size 0)) s5.get = some (I .i64 e.k) := aLoad1_of h5 rfl
  have hov : overlay 8 s5.get (ovO 3 s2.size (nSlice 1 (aFill [.int .u8 0] [(0, 1, I .u8 kb.toNat)])) []) = s5.get := rfl
  have f45 : FB s2 s5 (.sl s2.size 0 1 (.known 1)) [kb] := f4.gr' f5.gr
  obtain ⟨y6, s6, ap6, f6, z6, k6, n6⟩ := FB.app' f45 f5.rd (by have := vput_len e.v.toNat; simp; omega)
  have h6 : s6.get s.size = some (.cells true (cE e)) := f6.gr.get h2 g2.wf
  have hacc : ([kb] ++ vput e.v.toNat).length ≤ 1000 := by have := vput_len e.v.toNat; simp; omega
  have L : ∀ (j : Nat) (x : S), (cE e)[j]? = some x → aLoad1 (Z (.ptr s.size j)) s6.get = some (Z x) := fun j x hx => aLoad1_of h6 hx
  have l0 := L 0 _ rfl
  have l2 := L 2 _ rfl
  have l3 := L 3 _ rfl
  have l4 := L 4 _ rfl
  have l5 := L 5 _ rfl
  have l6 := L 6 _ rfl
  have l7 := L 7 _ rfl
  -- behind the numbers
  have fin : ∀ (z : S) (τ : St), FB s2 τ z ([kb] ++ vput e.v.toNat ++ putNs (nums e)) → ∃ y t, aLoad1 (Z (.ptr s.size 7)) τ.get = some (Z (.str e.x)) ∧ aAppend 1 1 (Z z) (Z (.str e.x)) τ = some (Z y, t) ∧ FB s t y (putB e) := fun z τ hf => by
    have hx := mayE_x h
    have hn := putNs_len (nums e)
    have hn2 := nums_len e
    obtain ⟨y, t, ap, hf2, _⟩ := FB.appStr (cs := e.x) hf (by simp at hacc ⊢; omega)
    refine ⟨y, t, aLoad1_of (hf.gr.get h2 g2.wf) rfl, ap, ?_⟩
    have e1 : [kb] ++ vput e.v.toNat ++ putNs (nums e) ++ e.x = putB e := by rw [hkb]; simp [putB]
    rw [e1] at hf2
    exact hf2.from (g1.trans g2)
  have hlt := nums_lt h hw
  have hnl := nums_len e
  have own6 : ∀ c, own y6 = some c → c < s6.size := fun c hc => (f6.new c hc).2
  -- a new slice of numbers
  have num : ∀ n, n = (nums e).length → ∃ z τ, loops (f31_l1 (R (d + 8)) 8192) 8192 [Z (.ptr s.size 0), Z y6, Z (.sl s6.size 0 n (.known n)), I .i64 (n : Nat), I .i64 0] (s6.push (.cells true (u64S (nums e)))) = some (.exit 1 [Z (.ptr s.size 0), Z z], τ) ∧ FB s2 τ z ([kb] ++ vput e.v.toNat ++ putNs (nums e)) := fun n hn => by
    subst hn
    have L := Fr.lit 1 f6.gr.wf (n := (nums e).length) (vs := u64S (nums e)) (by simp)
    exact nums_loop (d + 7) (v0 := Z (.ptr s.size 0)) (f6.gr' L.gr) L.rd (fun c hc => by
      cases hc
      exact ⟨by simp, (fun e => by have := own6 _ e; omega), by have := f6.gr.2.1; omega⟩) hlt hnl hacc
  simp only [Nat.add_assoc, Nat.reduceAdd] at e5
  by_cases c1 : e.k = 1
  · have ns : nums e = [e.i.toNat, e.t.toNat, e.f.toNat, e.o.toNat, e.u.toNat] := by unfold nums; rw [if_pos c1]
    obtain ⟨_, i1, i2, t1, t2, q1, q2, q3⟩ := hk1 c1
    have hu := hw.1
    have hu2 := hw.2
    have w2 : IntKind.u64.wrap e.i = (e.i.toNat : Int) := by rw [wrap_u64_in _ (by omega) (by omega)]; omega
    have w3 : IntKind.u64.wrap e.t = (e.t.toNat : Int) := by rw [wrap_u64_in _ (by omega) (by omega)]; omega
    have w4 : IntKind.u64.wrap e.f = (e.f.toNat : Int) := by rw [wrap_u64_in _ (by omega) (by omega)]; omega
    have w5 : IntKind.u64.wrap e.o = (e.o.toNat : Int) := by rw [wrap_u64_in _ (by omega) (by omega)]; omega
    have w6 : IntKind.u64.wrap e.u = (e.u.toNat : Int) := by rw [wrap_u64_in _ (by omega) (by omega)]; omega
    obtain ⟨z, τ, lp, hf⟩ := num 5 (by rw [ns]; rfl)
    obtain ⟨y, t, lx, apx, hf2⟩ := fin z τ hf
    have nw7 : aNew s6 (nSlice 5 (aFill [.int .u64 0, .int .u64 0, .int .u64 0, .int .u64 0, .int .u64 0] [(0, 1, I .u64 (e.i.toNat : Int)), (1, 1, I .u64 (e.t.toNat : Int)), (2, 1, I .u64 (e.f.toNat : Int)), (3, 1, I .u64 (e.o.toNat : Int)), (4, 1, I .u64 (e.u.toNat : Int))])) =
        some (Z (.sl s6.size 0 5 (.known 5)), s6.push (.cells true (u64S (nums e)))) := by rw [ns]; rfl
    refine ⟨y, t, ?_, hf2⟩
    generalize s6.push (.cells true (u64S (nums e))) = s7 at *
    generalize R (d + 8) = r at *
    generalize (e.i.toNat : Int) = A2 at *
    generalize (e.t.toNat : Int) = A3 at *
    generalize (e.f.toNat : Int) = A4 at *
    generalize (e.o.toNat : Int) = A5 at *
    generalize (e.u.toNat : Int) = A6 at *
    generalize (e.v.toNat : Int) = A1 at *
    generalize (kb.toNat : Int) = KB at *
    have w1' : IntKind.u8.wrap 1 = KB := by rw [← c1]; exact wk
    have lq : loops (f31_l1 r 8192) 8192 [Z (.ptr s.size 0), Z y6, Z (.sl s6.size 0 5 (.known 5)), I .i64 5, I .i64 0] s7 = some (.exit 1 [Z (.ptr s.size 0), Z z], τ) := lp
    simp [nw1, l8, e2, lk, c1, w1', nw4, lv, wv, e5, ap6, hov, lk5, l0, l2, l3, l4, l5, l6, w2, w3, w4, w5, w6, nw7, lq, lx, apx, retT, allV]
  · by_cases c2 : e.k = 2
    · have ns : nums e = [e.i.toNat] := by unfold nums; rw [if_neg c1, if_pos c2]
      obtain ⟨i1, i2, _⟩ := hk2 c2
      have w2 : IntKind.u64.wrap e.i = (e.i.toNat : Int) := by rw [wrap_u64_in _ (by omega) (by omega)]; omega
      obtain ⟨z, τ, lp, hf⟩ := num 1 (by rw [ns]; rfl)
      obtain ⟨y, t, lx, apx, hf2⟩ := fin z τ hf
      have nw7 : aNew s6 (nSlice 1 (aFill [.int .u64 0] [(0, 1, I .u64 (e.i.toNat : Int))])) = some (Z (.sl s6.size 0 1 (.known 1)), s6.push (.cells true (u64S (nums e)))) := by rw [ns]; rfl
      refine ⟨y, t, ?_, hf2⟩
      generalize s6.push (.cells true (u64S (nums e))) = s7 at *
      generalize R (d + 8) = r at *
      generalize (e.i.toNat : Int) = A2 at *
      generalize (e.v.toNat : Int) = A1 at *
      generalize (kb.toNat : Int) = KB at *
      have w1' : IntKind.u8.wrap 2 = KB := by rw [← c2]; exact wk
      have lq : loops (f31_l1 r 8192) 8192 [Z (.ptr s.size 0), Z y6, Z (.sl s6.size 0 1 (.known 1)), I .i64 1, I .i64 0] s7 = some (.exit 1 [Z (.ptr s.size 0), Z z], τ) := lp
      simp [nw1, l8, e2, lk, c2, w1', nw4, lv, wv, e5, ap6, hov, lk5, l0, l2, w2, nw7, lq, lx, apx, retT, allV]
    · by_cases c4 : e.k = 4
      · have ns : nums e = [e.x.length] := by unfold nums; rw [if_neg c1, if_neg c2, if_pos c4]
        have hx := mayE_x h
        have w2 : IntKind.u64.wrap (e.x.length : Int) = (e.x.length : Int) := wrap64 _ (by omega)
        obtain ⟨z, τ, lp, hf⟩ := num 1 (by rw [ns]; rfl)
        obtain ⟨y, t, lx, apx, hf2⟩ := fin z τ hf
        have nw7 : aNew s6 (nSlice 1 (aFill [.int .u64 0] [(0, 1, I .u64 (e.x.length : Int))])) = some (Z (.sl s6.size 0 1 (.known 1)), s6.push (.cells true (u64S (nums e)))) := by rw [ns]; rfl
        refine ⟨y, t, ?_, hf2⟩
        generalize s6.push (.cells true (u64S (nums e))) = s7 at *
        generalize R (d + 8) = r at *
        generalize (e.v.toNat : Int) = A1 at *
        generalize (kb.toNat : Int) = KB at *
        have w1' : IntKind.u8.wrap 4 = KB := by rw [← c4]; exact wk
        have lq : loops (f31_l1 r 8192) 8192 [Z (.ptr s.size 0), Z y6, Z (.sl s6.size 0 1 (.known 1)), I .i64 1, I .i64 0] s7 = some (.exit 1 [Z (.ptr s.size 0), Z z], τ) := lp
        simp [nw1, l8, e2, lk, c4, w1', nw4, lv, wv, e5, ap6, hov, lk5, l0, l7, w2, nw7, lq, lx, apx, retT, allV]
      · have c3 : e.k = 3 := by omega
        have ns : nums e = [] := by unfold nums; rw [if_neg c1, if_neg c2, if_neg c4]
        obtain ⟨z, τ, lp, hf⟩ := nums_loop (x := .nils) (ns := []) (d + 7) (v0 := Z (.ptr s.size 0)) f6 (Rd.nil 1 _) (fun c hc => by cases hc) (fun n hn => by cases hn) (by simp) hacc
        rw [← ns] at hf
        obtain ⟨y, t, lx, apx, hf2⟩ := fin z τ hf
        refine ⟨y, t, ?_, hf2⟩
        simp only [Nat.add_assoc, Nat.reduceAdd] at lp
        generalize R (d + 8) = r at *
        generalize (e.v.toNat : Int) = A1 at *
        generalize (kb.toNat : Int) = KB at *
        have w1' : IntKind.u8.wrap 3 = KB := by rw [← c3]; exact wk
        have lq : loops (f31_l1 r 8192) 8192 [Z (.ptr s.size 0), Z y6, Z .nils, I .i64 0, I .i64 0] s6 = some (.exit 1 [Z (.ptr s.size 0), Z z], τ) := lp
        simp [nw1, l8, e2, lk, c3, w1', nw4, lv, wv, e5, ap6, hov, lk5, l0, lq, lx, apx, retT, allV]
end
end Go.Proofs.YtlhbidbdmdcdeaaGreatDoor

/-
  slices.Delete of one element at a slice of unknown capacity. No conditions.
-/
namespace Go.Proofs.YtlhbidbdmdcdeaaGreatDoor
open Go Go.Abs Go.Abs.F
set_option linter.unusedVariables false
abbrev zI : List S := [.int .i64 0, .int .i64 0, .int .i64 0, .int .i64 0, .int .u32 0]

theorem aBounds_lhm {len cap lo hi m : Nat} (h : lo ≤ hi) (k : hi ≤ m) (l : m ≤ cap) : aBounds len cap (some (I .i64 lo)) (some (I .i64 hi)) (some (I .i64 m)) = some (lo, hi, m) := by
  have e : ∀ {a b : Nat}, a ≤ b → aBnd (I .i64 a) b = some a := fun {a b} h => by
    have h1 : (a : Int) ≤ (b : Int) := by omega
    simp [aBnd, h]
  delta aBounds
  dsimp only
  rw [e l]
  dsimp only
  rw [e k]
  dsimp only
  rw [e h]

theorem del_sound : CallSound Tryz.prog (delP 75 5 zI) := by
  refine grown_sound (plain_sound Tryz.prog 8 1) ?_
  intro f ts σ r h
  unfold delP at h
  split at h
  · cases h
  · rename_i hf
    have hf' := Nat.eq_of_beq_eq_true hf
    subst hf'
    split at h
    · rename_i i o n q a b
      split at h
      · rename_i vs hb
        split at h
        · rename_i hd
          have hd' := of_decide_eq_true hd
          obtain ⟨rfl, ha, rfl, hbn, hn, hv⟩ := hd'
          cases h
          obtain ⟨k, rfl⟩ : ∃ k : Nat, a = k := ⟨a.toNat, by omega⟩
          refine ⟨i, o, n, 5, n - 1, _, _, _, rfl, hb, rfl, fun c hc => ?_⟩
          have hkn : k + 1 ≤ n := by omega
          rw [Int.toNat_natCast]
          rw [(runQ_body rfl Tryz.func75 (by kernel_rfl)).trans (f75_eq _ _ _ _ _ _)]
          unfold f75
          have ek : ((k : Nat) : Int) + 1 = ((k + 1 : Nat) : Int) := by omega
          rw [ek]
          have p1 : aPieceSl 5 (Z (.sl i o n (.known c))) (some (I .i64 ((k : Nat) : Int))) (some (I .i64 ((k + 1 : Nat) : Int))) (some (I .i64 ((n : Nat) : Int))) = some (Z (.sl i (if n = k then o else o + k * 5) (k + 1 - k) (.known (n - k)))) := by
            simp only [aPieceSl, aBounds_lhm (show k ≤ k + 1 by omega) hkn hc]
          have p2 : aPieceSl 5 (Z (.sl i o n (.known c))) none (some (I .i64 ((k : Nat) : Int))) none = some (Z (.sl i o k (.known c))) := by
            simp only [aPieceSl, aBounds_hi (show k ≤ c by omega), Nat.zero_mul, Nat.add_zero, ite_self, Nat.sub_zero]
          have p3 : aPieceSl 5 (Z (.sl i o n (.known c))) (some (I .i64 ((k + 1 : Nat) : Int))) none none = some (Z (.sl i (if c = k + 1 then o else o + (k + 1) * 5) (n - (k + 1)) (.known (c - (k + 1))))) := by
            simp only [aPieceSl, aBounds_lo hkn hc]
          have src : aSrc 5 (Z (.sl i (if c = k + 1 then o else o + (k + 1) * 5) (n - (k + 1)) (.known (c - (k + 1))))) σ.get = some (n - (k + 1), (vs.drop (o + (k + 1) * 5)).take ((n - 1 - k) * 5)) := by
            by_cases hz : n - (k + 1) = 0
            · have : n - 1 - k = 0 := by omega
              simp [aSrc, hz, this]
            · have h1 : ¬ c = k + 1 := by omega
              have h2 : o + (k + 1) * 5 + (n - (k + 1)) * 5 ≤ vs.length := by omega
              have h3 : n - 1 - k = n - (k + 1) := by omega
              simp only [aSrc, if_neg hz, if_neg h1, hb, if_pos h2, h3]
          obtain ⟨v1, hv1⟩ : ∃ v1, v1 = setRange vs (o + k * 5) ((vs.drop (o + (k + 1) * 5)).take ((n - 1 - k) * 5)) := ⟨_, rfl⟩
          have hl1 : v1.length = vs.length := by rw [hv1, setRange_length]
          have ap : aAppend 5 40 (Z (.sl i o k (.known c))) (Z (.sl i (if c = k + 1 then o else o + (k + 1) * 5) (n - (k + 1)) (.known (c - (k + 1))))) σ = some (Z (.sl i o (n - 1) (.known c)), σ.set i (.cells true v1)) := by
            have h1 : (n - 1) * 40 ≤ 140737488355328 := by omega
            have h2 : n - 1 ≤ c := by omega
            have h3 : True ∧ o + k * 5 + (n - (k + 1)) * 5 ≤ vs.length := ⟨trivial, by omega⟩
            have h4 : k + (n - (k + 1)) = n - 1 := by omega
            simp only [aAppend, src, if_neg (show ¬ (5 : Nat) = 0 by decide), hb, h4]
            rw [if_pos h1, if_pos h2, if_pos h3, hv1]
          have p4 : aPieceSl 5 (Z (.sl i o (n - 1) (.known c))) (some (I .i64 ((n - 1 : Nat) : Int))) (some (I .i64 ((n : Nat) : Int))) none = some (Z (.sl i (o + (n - 1) * 5) (n - (n - 1)) (.known (c - (n - 1))))) := by
            have h1 : ¬ c = n - 1 := by omega
            simp only [aPieceSl, aBounds_lh (show n - 1 ≤ n by omega) hc, if_neg h1]
          have cl : aClear 5 zI (Z (.sl i (o + (n - 1) * 5) (n - (n - 1)) (.known (c - (n - 1))))) (σ.set i (.cells true v1)) = some (tt, (σ.set i (.cells true v1)).set i (.cells true (setRange v1 (o + (n - 1) * 5) zI))) := by
            have h1 : n - (n - 1) = 1 := by omega
            have h2 : o + (n - 1) * 5 + 1 * 5 ≤ v1.length := by omega
            simp only [aClear, h1, if_neg (show ¬ (1 : Nat) = 0 by decide), St.get_set_same, if_pos h2]
            rfl
          have le1 : aLenSl (Z (.sl i o n (.known c))) = some (I .i64 ((n : Nat) : Int)) := rfl
          have le2 : aLenSl (Z (.sl i o (n - 1) (.known c))) = some (I .i64 ((n - 1 : Nat) : Int)) := rfl
          simp only [zI] at cl ⊢
          clear hc hn hbn hv hkn ha
          have nk : ¬ (((k : Nat) : Int) = ((k + 1 : Nat) : Int)) := by omega
          rw [← hv1]
          generalize ((n - 1 : Nat) : Int) = N1 at *
          generalize ((n : Nat) : Int) = NN at *
          generalize ((k + 1 : Nat) : Int) = K1 at *
          generalize ((k : Nat) : Int) = K at *
          simp only [le1, le2, bd_some, p1, eql_int, decide_eq_false nk, br_false, p2, p3, ap, bd2_some, p4, cl]
        · cases h
      · cases h
    · cases h
end Go.Proofs.YtlhbidbdmdcdeaaGreatDoor

/-
  slices.Insert of one element ahead of another at a slice of unknown capacity. No conditions.
-/
namespace Go.Proofs.YtlhbidbdmdcdeaaGreatDoor
open Go Go.Abs Go.Abs.F
set_option linter.unusedVariables false

theorem over_ok : overT Tryz.prog 89 = true := by kernel_rfl

theorem ins_grow (a w b z : List S) (hz : z.length = w.length + b.length) : setRange (setRange (a ++ z) a.length w) (a.length + w.length) b = a ++ w ++ b := by
  rw [setRange_eq (a ++ z) a.length w (by simp; omega), List.take_left, setRange_eq _ _ b (by simp; omega)]
  rw [List.take_left' (by simp), List.drop_eq_nil_of_le (by simp; omega), List.append_nil]

theorem ins_room (a w b r : List S) (hr : w.length ≤ r.length) : (setRange (setRange (a ++ b ++ r) (a.length + w.length) b) a.length w).take (a.length + w.length + b.length) = a ++ w ++ b := by
  have hX : ∃ q, setRange (a ++ b ++ r) (a.length + w.length) b = a ++ (q ++ b ++ r.drop w.length) ∧ q.length = w.length := by
    refine ⟨(b ++ r).take w.length, ?_, by simp; omega⟩
    rw [setRange_eq _ _ b (by simp; omega), List.append_assoc a b r, List.take_append, List.drop_append]
    have e1 : a.take (a.length + w.length) = a := List.take_of_length_le (by omega)
    have e2 : a.drop (a.length + w.length + b.length) = [] := List.drop_eq_nil_of_le (by omega)
    have e3 : a.length + w.length + b.length - a.length = b.length + w.length := by omega
    rw [e1, e2, e3, Nat.add_sub_cancel_left, List.nil_append, List.drop_append, List.drop_eq_nil_of_le (by omega), List.nil_append, Nat.add_sub_cancel_left]
    simp only [List.append_assoc]
  obtain ⟨q, hq, hl⟩ := hX
  rw [hq, setRange_eq _ _ w (by simp; omega), List.take_left, List.drop_append, List.drop_eq_nil_of_le (by omega), List.nil_append, Nat.add_sub_cancel_left, List.append_assoc q, List.drop_left' hl, ← List.append_assoc (a ++ w), List.take_left' (by simp; omega)]

section
variable {σ : St} {i j p n k c : Nat} {vs us : List S}

theorem ins_facts (hkn : k < n) (hn : n ≤ 1000000) :
    aBin .eql (I .i64 1) (I .i64 0) = some (B false) ∧ aBin .eql (I .i64 ((k : Nat) : Int)) (I .i64 ((n : Nat) : Int)) = some (B false) ∧ aBin .add (I .i64 ((n : Nat) : Int)) (I .i64 1) = some (I .i64 ((n + 1 : Nat) : Int)) ∧
      aBin .add (I .i64 ((k : Nat) : Int)) (I .i64 1) = some (I .i64 ((k + 1 : Nat) : Int)) ∧ aBin .sub (I .i64 ((n + 1 : Nat) : Int)) (I .i64 ((k : Nat) : Int)) = some (I .i64 ((n + 1 - k : Nat) : Int)) := by
  have h1 : ¬ (((k : Nat) : Int) = ((n : Nat) : Int)) := by omega
  have h2 : IntKind.i64.wrap ((n : Int) + 1) = ((n + 1 : Nat) : Int) := by rw [wrap_in _ (by omega) (by omega)]; omega
  have h3 : IntKind.i64.wrap ((k : Int) + 1) = ((k + 1 : Nat) : Int) := by rw [wrap_in _ (by omega) (by omega)]; omega
  have h4 : IntKind.i64.wrap (((n + 1 : Nat) : Int) - (k : Int)) = ((n + 1 - k : Nat) : Int) := by rw [wrap_in _ (by omega) (by omega)]; omega
  refine ⟨rfl, ?_, ?_, ?_, ?_⟩
  · rw [eql_int, decide_eq_false h1]
  · rw [add_int, h2]
  · rw [add_int, h3]
  · rw [sub_int, h4]

theorem insN_run (d : Nat) (wf : σ.wf) (hi : σ.get i = some (.cells true vs)) (hj : σ.get j = some (.cells true us)) (hkn : k < n) (hn : n ≤ 1000000) (hv : n * 5 ≤ vs.length) (hij : i ≠ j) (hp : p + 5 ≤ us.length) :
    ∃ τ, f74 (runQ Tryz.prog 8 noPrim d) 8 (Z (.sl i 0 n (.known n))) (I .i64 k) (Z (.sl j p 1 (.known 1))) σ = some (Z (.sl σ.size 0 (n + 1) (.grown 5)), τ) ∧ τ.size = σ.size + 1 ∧
      τ.get σ.size = some (.cells true (vs.take (k * 5) ++ (us.drop p).take 5 ++ (vs.drop (k * 5)).take ((n - k) * 5))) ∧ ∀ b, b < σ.size → τ.get b = σ.get b := by
  obtain ⟨f1, f2, f3, f4, f5⟩ := ins_facts hkn hn
  obtain ⟨N, hN⟩ : ∃ N, N = σ.size := ⟨_, rfl⟩
  obtain ⟨a, ha⟩ : ∃ a, a = vs.take (k * 5) := ⟨_, rfl⟩
  obtain ⟨w, hw⟩ : ∃ w, w = (us.drop p).take 5 := ⟨_, rfl⟩
  obtain ⟨b, hb⟩ : ∃ b, b = (vs.drop (k * 5)).take ((n - k) * 5) := ⟨_, rfl⟩
  have hla : a.length = k * 5 := by rw [ha, List.length_take]; omega
  have hlw : w.length = 5 := by rw [hw]; simp; omega
  have hlb : b.length = (n - k) * 5 := by rw [hb]; simp; omega
  obtain ⟨z, hz⟩ : ∃ z, z = zeros (n + 1 - k) zI := ⟨_, rfl⟩
  have hlz : z.length = (n + 1 - k) * 5 := by rw [hz]; exact zeros_len (e := 5) rfl _
  have le0 : aLenSl (Z (.sl i 0 n (.known n))) = some (I .i64 ((n : Nat) : Int)) := rfl
  have le2 : aLenSl (Z (.sl j p 1 (.known 1))) = some (I .i64 1) := rfl
  have cp : aCap (Z (.sl i 0 n (.known n))) = some (I .i64 ((n : Nat) : Int)) := rfl
  have gt : aBin .gtr (I .i64 ((n + 1 : Nat) : Int)) (I .i64 ((n : Nat) : Int)) = some (B true) := by
    rw [gtr_int, decide_eq_true (by omega)]
  have p1 : aPieceSl 5 (Z (.sl i 0 n (.known n))) (some (I .i64 ((k : Nat) : Int))) none none = some (Z (.sl i (k * 5) (n - k) (.known (n - k)))) := by
    have h1 : ¬ n = k := by omega
    simp only [aPieceSl, aBounds_lo (show k ≤ n by omega) (Nat.le_refl n), if_neg h1, Nat.zero_add]
  have p2 : aPieceSl 5 (Z (.sl i 0 n (.known n))) none (some (I .i64 ((k : Nat) : Int))) none = some (Z (.sl i 0 k (.known n))) := by
    simp only [aPieceSl, aBounds_hi (show k ≤ n by omega), Nat.zero_mul, Nat.add_zero, ite_self, Nat.sub_zero]
  obtain ⟨s1, hs1⟩ : ∃ s1, s1 = σ.push (.cells true (a ++ z)) := ⟨_, rfl⟩
  have gr : aGrow 5 40 [.int .i64 0, .int .i64 0, .int .i64 0, .int .i64 0, .int .u32 0] (Z (.sl i 0 k (.known n))) (I .i64 ((n + 1 - k : Nat) : Int)) σ = some (Z (.sl N 0 (n + 1) (.grown 5)), s1) := by
    have h1 : 0 < ((n + 1 - k : Nat) : Int) ∧ k ≤ n ∧ n < k + ((n + 1 - k : Nat) : Int).toNat ∧ (k + ((n + 1 - k : Nat) : Int).toNat) * 40 ≤ 140737488355328 ∧ (5 : Nat) ≠ 0 ∧ 0 + k * 5 ≤ vs.length := by
      rw [Int.toNat_natCast]
      refine ⟨by omega, by omega, by omega, by omega, by decide, by omega⟩
    have h2 : k + ((n + 1 - k : Nat) : Int).toNat = n + 1 := by omega
    simp only [aGrow, hi]
    rw [if_pos h1, h2, Int.toNat_natCast, List.drop_zero, ← ha, hs1, hz, hN]
  have g1 : s1.get N = some (.cells true (a ++ z)) := by rw [hs1, hN]; exact St.get_push_same _ _
  have o1 : ∀ q, q ≠ N → s1.get q = σ.get q := fun q hq => by rw [hs1]; exact St.get_push_ne _ _ (by rw [← hN]; exact hq)
  have p3 : aPieceSl 5 (Z (.sl N 0 (n + 1) (.grown 5))) (some (I .i64 ((k : Nat) : Int))) none none = some (Z (.sl N (k * 5) (n + 1 - k) (.grown 5))) := by
    simp only [aPieceSl, aBounds_lo (show k ≤ n + 1 by omega) (Nat.le_refl (n + 1)), if_pos trivial, if_pos (show k < n + 1 by omega), Nat.zero_add]
  have p4 : aPieceSl 5 (Z (.sl N 0 (n + 1) (.grown 5))) (some (I .i64 ((k + 1 : Nat) : Int))) none none = some (Z (.sl N ((k + 1) * 5) (n - k) (.grown 5))) := by
    have h1 : n + 1 - (k + 1) = n - k := by omega
    simp only [aPieceSl, aBounds_lo (show k + 1 ≤ n + 1 by omega) (Nat.le_refl (n + 1)), if_pos trivial, if_pos (show k + 1 < n + 1 by omega), Nat.zero_add, h1]
  have jN : j ≠ N := by have := wf.lt hj; omega
  have iN : i ≠ N := by have := wf.lt hi; omega
  have hj1 : s1.get j = some (.cells true us) := by rw [o1 j jN]; exact hj
  have src1 : aSrc 5 (Z (.sl j p 1 (.known 1))) s1.get = some (1, w) := by
    simp only [aSrc, if_neg (show ¬ (1 : Nat) = 0 by decide), hj1, Nat.one_mul, if_pos hp, hw]
  have hm1 : Nat.min 1 (n + 1 - k) = 1 := by show min 1 (n + 1 - k) = 1; omega
  obtain ⟨A1, hA1⟩ : ∃ A1, A1 = setRange (a ++ z) (k * 5) w := ⟨_, rfl⟩
  obtain ⟨s2, hs2⟩ : ∃ s2, s2 = s1.set N (.cells true A1) := ⟨_, rfl⟩
  have cy1 : aCopy 5 (Z (.sl N (k * 5) (n + 1 - k) (.grown 5))) (Z (.sl j p 1 (.known 1))) s1 = some (I .i64 ((1 : Nat) : Int), s2) := by
    have h1 : k * 5 + 1 * 5 ≤ (a ++ z).length := by simp; omega
    have h2 : w.take (1 * 5) = w := List.take_of_length_le (by omega)
    simp only [aCopy, src1, g1, hm1]
    rw [if_pos h1, h2, hs2, hA1]
  have g2 : s2.get N = some (.cells true A1) := by rw [hs2]; exact St.get_set_same _ _ _
  have hi2 : s2.get i = some (.cells true vs) := by rw [hs2, St.get_set_ne _ _ iN, o1 i iN]; exact hi
  have hnk : ¬ n - k = 0 := by omega
  have src2 : aSrc 5 (Z (.sl i (k * 5) (n - k) (.known (n - k)))) s2.get = some (n - k, b) := by
    have h1 : k * 5 + (n - k) * 5 ≤ vs.length := by omega
    simp only [aSrc, if_neg hnk, hi2, if_pos h1, hb]
  have hm2 : Nat.min (n - k) (n - k) = n - k := by show min (n - k) (n - k) = n - k; omega
  obtain ⟨A2, hA2⟩ : ∃ A2, A2 = setRange A1 ((k + 1) * 5) b := ⟨_, rfl⟩
  obtain ⟨s3, hs3⟩ : ∃ s3, s3 = s2.set N (.cells true A2) := ⟨_, rfl⟩
  have cy2 : aCopy 5 (Z (.sl N ((k + 1) * 5) (n - k) (.grown 5))) (Z (.sl i (k * 5) (n - k) (.known (n - k)))) s2 = some (I .i64 ((n - k : Nat) : Int), s3) := by
    have h1 : (k + 1) * 5 + (n - k) * 5 ≤ A1.length := by rw [hA1, setRange_length]; simp; omega
    have h2 : b.take ((n - k) * 5) = b := List.take_of_length_le (by omega)
    simp only [aCopy, src2, g2, hm2]
    rw [if_pos h1, h2, hs3, hA2]
  have hfin : A2 = a ++ w ++ b := by
    have := ins_grow a w b z (by omega)
    rw [hla, hlw] at this
    rw [hA2, hA1, Nat.add_mul, Nat.one_mul]
    exact this
  refine ⟨s3, ?_, by rw [hs3, hs2, hs1]; rfl, by rw [← hN, hs3, St.get_set_same, hfin, ha, hw, hb], fun q hq => ?_⟩
  · unfold f74
    rw [← hN]
    clear hi hj hi2 hj1 hv hp wf
    have br1 : ((1 : Nat) : Int) = 1 := rfl
    rw [br1] at cy1
    generalize n + 1 - k = M at *
    generalize ((n + 1 : Nat) : Int) = N1 at *
    generalize ((k + 1 : Nat) : Int) = K1 at *
    generalize ((M : Nat) : Int) = MI at *
    generalize ((n : Nat) : Int) = NI at *
    generalize ((k : Nat) : Int) = KI at *
    simp only [p1, le0, le2, bd_some, f1, br_false, f2, f3, cp, gt, br_true, p2, f5, gr, bd2_some, p3, cy1, f4, p4, cy2]
  · rw [hs3, hs2, St.get_set_ne _ _ (by omega), St.get_set_ne _ _ (by omega), o1 q (by omega)]

theorem insR_run (d : Nat) (hi : σ.get i = some (.cells true vs)) (hj : σ.get j = some (.cells true us)) (hkn : k < n) (hn : n ≤ 1000000) (hc : n + 1 ≤ c) (hv : vs.length = c * 5) (hij : i ≠ j) (hp : p + 5 ≤ us.length) :
    ∃ τ B, f74 (runQ Tryz.prog 8 noPrim d) 8 (Z (.sl i 0 n (.known c))) (I .i64 k) (Z (.sl j p 1 (.known 1))) σ = some (Z (.sl i 0 (n + 1) (.known c)), τ) ∧ τ.size = σ.size ∧
      τ.get i = some (.cells true B) ∧ B.length = vs.length ∧ B.take ((n + 1) * 5) = vs.take (k * 5) ++ (us.drop p).take 5 ++ (vs.drop (k * 5)).take ((n - k) * 5) ∧ ∀ b, b ≠ i → τ.get b = σ.get b := by
  obtain ⟨f1, f2, f3, f4, f5⟩ := ins_facts hkn hn
  obtain ⟨a, ha⟩ : ∃ a, a = vs.take (k * 5) := ⟨_, rfl⟩
  obtain ⟨w, hw⟩ : ∃ w, w = (us.drop p).take 5 := ⟨_, rfl⟩
  obtain ⟨b, hb⟩ : ∃ b, b = (vs.drop (k * 5)).take ((n - k) * 5) := ⟨_, rfl⟩
  obtain ⟨r, hr⟩ : ∃ r, r = vs.drop (n * 5) := ⟨_, rfl⟩
  have hla : a.length = k * 5 := by rw [ha, List.length_take]; omega
  have hlw : w.length = 5 := by rw [hw]; simp; omega
  have hlb : b.length = (n - k) * 5 := by rw [hb]; simp; omega
  have hlr : 5 ≤ r.length := by rw [hr]; simp; omega
  have hvs : vs = a ++ b ++ r := by
    have h1 : vs.drop (k * 5) = b ++ r := by
      rw [hb, hr]
      have : n * 5 = k * 5 + (n - k) * 5 := by omega
      rw [this, ← List.drop_drop]
      exact (List.take_append_drop _ _).symm
    rw [List.append_assoc, ← h1, ha]
    exact (List.take_append_drop _ _).symm
  have le0 : aLenSl (Z (.sl i 0 n (.known c))) = some (I .i64 ((n : Nat) : Int)) := rfl
  have le2 : aLenSl (Z (.sl j p 1 (.known 1))) = some (I .i64 1) := rfl
  have cp : aCap (Z (.sl i 0 n (.known c))) = some (I .i64 ((c : Nat) : Int)) := rfl
  have gt : aBin .gtr (I .i64 ((n + 1 : Nat) : Int)) (I .i64 ((c : Nat) : Int)) = some (B false) := by
    rw [gtr_int, decide_eq_false (by omega)]
  have p0 : aPieceSl 5 (Z (.sl i 0 n (.known c))) (some (I .i64 ((k : Nat) : Int))) none none = some (Z (.sl i (k * 5) (n - k) (.known (c - k)))) := by
    have h1 : ¬ c = k := by omega
    simp only [aPieceSl, aBounds_lo (show k ≤ n by omega) (show n ≤ c by omega), if_neg h1, Nat.zero_add]
  have p1 : aPieceSl 5 (Z (.sl i 0 n (.known c))) none (some (I .i64 ((n + 1 : Nat) : Int))) none = some (Z (.sl i 0 (n + 1) (.known c))) := by
    simp only [aPieceSl, aBounds_hi hc, Nat.zero_mul, Nat.add_zero, ite_self, Nat.sub_zero]
  have p2 : aPieceSl 5 (Z (.sl i 0 (n + 1) (.known c))) (some (I .i64 ((k + 1 : Nat) : Int))) none none = some (Z (.sl i ((k + 1) * 5) (n - k) (.known (c - (k + 1))))) := by
    have h1 : ¬ c = k + 1 := by omega
    have h2 : n + 1 - (k + 1) = n - k := by omega
    simp only [aPieceSl, aBounds_lo (show k + 1 ≤ n + 1 by omega) hc, if_neg h1, Nat.zero_add, h2]
  have p3 : aPieceSl 5 (Z (.sl i 0 (n + 1) (.known c))) (some (I .i64 ((k : Nat) : Int))) none none = some (Z (.sl i (k * 5) (n + 1 - k) (.known (c - k)))) := by
    have h1 : ¬ c = k := by omega
    simp only [aPieceSl, aBounds_lo (show k ≤ n + 1 by omega) hc, if_neg h1, Nat.zero_add]
  have ov : xOver Tryz.prog 89 [Z (.sl j p 1 (.known 1)), Z (.sl i ((k + 1) * 5) (n - k) (.known (c - (k + 1))))] σ = some (B false, σ) := by
    have h1 : Nat.beq j i = false := by
      cases h : Nat.beq j i with
      | false => rfl
      | true => exact absurd (Nat.eq_of_beq_eq_true h).symm hij
    simp only [xOver, aOver, hi, hj, h1, over_ok]
  have no : aUn .not (B false) = some (B true) := rfl
  have src1 : aSrc 5 (Z (.sl i (k * 5) (n + 1 - k) (.known (c - k)))) σ.get = some (n + 1 - k, (vs.drop (k * 5)).take ((n + 1 - k) * 5)) := by
    have h1 : k * 5 + (n + 1 - k) * 5 ≤ vs.length := by omega
    simp only [aSrc, if_neg (show ¬ n + 1 - k = 0 by omega), hi, if_pos h1]
  have hm1 : Nat.min (n + 1 - k) (n - k) = n - k := by show min (n + 1 - k) (n - k) = n - k; omega
  have hbt : ((vs.drop (k * 5)).take ((n + 1 - k) * 5)).take ((n - k) * 5) = b := by
    rw [List.take_take, hb]
    congr 1; omega
  obtain ⟨A1, hA1⟩ : ∃ A1, A1 = setRange vs ((k + 1) * 5) b := ⟨_, rfl⟩
  obtain ⟨s1, hs1⟩ : ∃ s1, s1 = σ.set i (.cells true A1) := ⟨_, rfl⟩
  have cy1 : aCopy 5 (Z (.sl i ((k + 1) * 5) (n - k) (.known (c - (k + 1))))) (Z (.sl i (k * 5) (n + 1 - k) (.known (c - k)))) σ = some (I .i64 ((n - k : Nat) : Int), s1) := by
    have h1 : (k + 1) * 5 + (n - k) * 5 ≤ vs.length := by omega
    simp only [aCopy, src1, hi, hm1]
    rw [if_pos h1, hbt, hs1, hA1]
  have g1 : s1.get i = some (.cells true A1) := by rw [hs1]; exact St.get_set_same _ _ _
  have hj1 : s1.get j = some (.cells true us) := by rw [hs1, St.get_set_ne _ _ (fun h => hij h.symm)]; exact hj
  have src2 : aSrc 5 (Z (.sl j p 1 (.known 1))) s1.get = some (1, w) := by
    simp only [aSrc, if_neg (show ¬ (1 : Nat) = 0 by decide), hj1, Nat.one_mul, if_pos hp, hw]
  have hm2 : Nat.min 1 (n + 1 - k) = 1 := by show min 1 (n + 1 - k) = 1; omega
  obtain ⟨A2, hA2⟩ : ∃ A2, A2 = setRange A1 (k * 5) w := ⟨_, rfl⟩
  obtain ⟨s2, hs2⟩ : ∃ s2, s2 = s1.set i (.cells true A2) := ⟨_, rfl⟩
  have hl1 : A1.length = vs.length := by rw [hA1, setRange_length]
  have cy2 : aCopy 5 (Z (.sl i (k * 5) (n + 1 - k) (.known (c - k)))) (Z (.sl j p 1 (.known 1))) s1 = some (I .i64 ((1 : Nat) : Int), s2) := by
    have h1 : k * 5 + 1 * 5 ≤ A1.length := by omega
    have h2 : w.take (1 * 5) = w := List.take_of_length_le (by omega)
    simp only [aCopy, src2, g1, hm2]
    rw [if_pos h1, h2, hs2, hA2]
  have hfin : A2.take ((n + 1) * 5) = a ++ w ++ b := by
    have := ins_room a w b r (by omega)
    rw [← hvs, hla, hlw, hlb] at this
    have e1 : k * 5 + 5 = (k + 1) * 5 := by omega
    have e2 : (k + 1) * 5 + (n - k) * 5 = (n + 1) * 5 := by omega
    rw [e1, e2] at this
    rw [hA2, hA1]
    exact this
  refine ⟨s2, A2, ?_, by rw [hs2, hs1]; simp, by rw [hs2]; exact St.get_set_same _ _ _, by rw [hA2, setRange_length, hl1], by rw [hfin, ha, hw, hb], fun q hq => by rw [hs2, hs1, St.get_set_ne _ _ hq, St.get_set_ne _ _ hq]⟩
  unfold f74
  clear hi hj hj1 hv hp
  have br1 : ((1 : Nat) : Int) = 1 := rfl
  rw [br1] at cy2
  generalize ((n - k : Nat) : Int) = NK at *
  generalize ((n + 1 : Nat) : Int) = N1 at *
  generalize ((k + 1 : Nat) : Int) = K1 at *
  generalize ((c : Nat) : Int) = CI at *
  generalize ((n : Nat) : Int) = NI at *
  generalize ((k : Nat) : Int) = KI at *
  simp only [p0, le0, le2, bd_some, f1, br_false, f2, f3, cp, gt, p1, f4, p2, ov, bd2_some, no, br_true, p3, cy1, cy2]
end

theorem ins_sound : CallSound Tryz.prog (insP 74 5) := by
  have body : ∀ (a0 a1 a2 : T) (σ : St), runQ Tryz.prog 8 noPrim 1 74 [a0, a1, a2] σ = f74 (runQ Tryz.prog 8 noPrim 0) 8 a0 a1 a2 σ := fun a0 a1 a2 σ =>
    (runQ_body rfl Tryz.func74 (by kernel_rfl)).trans (f74_eq _ _ _ _ _ _)
  refine Go.Abs.F.ins_sound (plain_sound Tryz.prog 8 1) ?_ ?_
  · intro σ i n k j p vs us wf h1 h2 h3 h4 h5 h6 h7
    obtain ⟨τ, e1, e2⟩ := insN_run 0 wf h1 h2 h3 h4 h5 h6 h7
    exact ⟨τ, (body _ _ _ _).trans e1, e2⟩
  · intro σ i n k j p c vs us h1 h2 h3 h4 h5 h6 h7 h8
    obtain ⟨τ, B, e1, e2⟩ := insR_run 0 h1 h2 h3 h4 h5 h6 h7 h8
    exact ⟨τ, B, (body _ _ _ _).trans e1, e2⟩
end Go.Proofs.YtlhbidbdmdcdeaaGreatDoor

/-
  Lists of segments in a store: search, insertion, removal. No conditions but those named in each line.
-/
namespace Go.Proofs.YtlhbidbdmdcdeaaGreatDoor
open Go Go.Abs Go.Abs.F
set_option linter.unusedVariables false

structure Inf where
  i : Int
  t : Int
  f : Int
  o : Int
  u : Int
  deriving DecidableEq
def cI (x : Inf) : List S := [.int .i64 x.i, .int .i64 x.t, .int .i64 x.f, .int .i64 x.o, .int .u32 x.u]
abbrev AI (x : Inf) : T := .v (.agg (cI x))
theorem cI_len (x : Inf) : (cI x).length = 5 := rfl

/-- A list of segments: nil, or a slice that begins its block. -/
def InS (s : St) (x : S) (l : List Inf) : Prop := (x = .nils ∧ l = []) ∨ ∃ c vs, x = .sl c 0 l.length (.grown 5) ∧ s.get c = some (.cells true vs) ∧ vs.take (l.length * 5) = cells cI l

section
variable {s t : St} {x : S} {l : List Inf}

theorem InS.rd (h : InS s x l) : Rd 5 s x l.length (cells cI l) := by
  rcases h with ⟨rfl, rfl⟩ | ⟨c, vs, rfl, hb, ht⟩
  · exact Rd.nil 5 s
  · have hl := cells_len (e := 5) cI_len l
    refine ⟨hl, .inr ⟨c, 0, _, true, vs, rfl, hb, ?_, by rw [List.drop_zero]; exact ht⟩, rfl⟩
    have := congrArg List.length ht
    rw [List.length_take, hl] at this
    omega

theorem InS.keep (h : InS s x l) (hk : ∀ c, own x = some c → t.get c = s.get c) : InS t x l := by
  rcases h with ⟨rfl, rfl⟩ | ⟨c, vs, rfl, hb, ht⟩
  · exact .inl ⟨rfl, rfl⟩
  · exact .inr ⟨c, vs, rfl, by rw [hk c rfl]; exact hb, ht⟩

theorem InS.lt (h : InS s x l) (wf : s.wf) {c : Nat} (hc : own x = some c) : c < s.size := by
  rcases h with ⟨rfl, rfl⟩ | ⟨d, vs, rfl, hb, ht⟩
  · cases hc
  · cases hc; exact wf.lt hb

theorem InS.atI (h : InS s x l) {j : Nat} {n : Int} {a : Inf} (hn : n = j) (ha : l[j]? = some a) : ∃ p, aIndexSl 5 (Z x) (I .i64 n) = some p ∧ aLoadN 5 p s.get = some (AI a) := by
  obtain ⟨c, p, h1, _, h3⟩ := Rd.at h.rd hn (List.getElem?_eq_some_iff.1 ha).1
  rw [cells_row cI_len ha] at h3
  exact ⟨_, h1, h3⟩

/-- How a segment's number compares. -/
def cmpI (id : Int) (a : Inf) : Int := IntKind.i64.wrap (a.i - id)

theorem cmpI_in {id : Int} {a : Inf} (h0 : 0 ≤ id) (h1 : id ≤ 1073741824) (h2 : 0 ≤ a.i) (h3 : a.i ≤ 1073741824) : cmpI id a = a.i - id := wrap_in _ (by omega) (by omega)

theorem cmp_run (d : Nat) (wf : s.wf) (a : Inf) (id : Int) : ∃ t, R (d + 1) 88 [AI a, I .i64 id] s = some (I .i64 (cmpI id a), t) ∧ Gr s t := by
  rw [f88_run]
  unfold f88
  obtain ⟨s1, hs1⟩ : ∃ s1, s1 = s.push (.cells true (cI a)) := ⟨_, rfl⟩
  have nw : aNew s (nBox (AI a)) = some (Z (.ptr s.size 0), s1) := by rw [hs1]; rfl
  have fa : aFieldAddr 0 (Z (.ptr s.size 0)) = some (Z (.ptr s.size 0)) := rfl
  have ld : aLoad1 (Z (.ptr s.size 0)) s1.get = some (I .i64 a.i) := aLoad1_of (by rw [hs1]; exact St.get_push_same _ _) rfl
  refine ⟨s1, ?_, by rw [hs1]; exact Gr.push wf _⟩
  simp only [nw, bd2_some, fa, bd_some, ld, sub_int]
  rfl

theorem dyn_clo0 {callf : CallF} {f : Nat} {args : List T} {σ : St} (h : callable Tryz.prog f = true) : dyn Tryz.prog callf (Z (.clo f [])) args σ = callf f args σ := by
  simp only [dyn, h, if_true, List.map_nil, List.append_nil]

theorem at_callable : callable Tryz.prog 88 = true := by kernel_rfl

/-- What a search tells: a place, and whether the number is there. -/
structure Found (l : List Inf) (id : Int) (k : Nat) : Prop where
  le : k ≤ l.length
  low : (∀ (a b : Nat) (x y : Inf), a < b → l[a]? = some x → l[b]? = some y → cmpI id y < 0 → cmpI id x < 0) → ∀ (a : Nat) (x : Inf), a < k → l[a]? = some x → cmpI id x < 0
  high : (∀ (a b : Nat) (x y : Inf), a < b → l[a]? = some x → l[b]? = some y → cmpI id y < 0 → cmpI id x < 0) → ∀ (a : Nat) (x : Inf), k ≤ a → l[a]? = some x → ¬ cmpI id x < 0

def hitI (l : List Inf) (id : Int) (k : Nat) : Bool := match l[k]? with
  | some a => decide (cmpI id a = 0)
  | none => false

set_option maxHeartbeats 1000000 in
theorem bsf_run (d : Nat) (wf : s.wf) (h : InS s x l) (hl : l.length ≤ 8000) (id : Int) : ∃ k t, R (d + 2) 87 [Z x, I .i64 id, Z (.clo 88 [])] s = some (.tup [.s (.int .i64 ((k : Nat) : Int)), .s (.bool (hitI l id k))], t) ∧ Gr s t ∧ Found l id k := by
  rw [f87_run]
  unfold f87
  have ll := h.rd.lens
  have dy : ∀ (u : St) (a : Inf), u.wf → ∃ t, dyn Tryz.prog (R (d + 1)) (Z (.clo 88 [])) [AI a, I .i64 id] u = some (I .i64 (cmpI id a), t) ∧ Gr u t := fun u a hu => by
    obtain ⟨t, e, g⟩ := cmp_run d hu a id
    exact ⟨t, by rw [dyn_clo0 at_callable]; exact e, g⟩
  obtain ⟨Mono, hM⟩ : ∃ Mono, Mono = ∀ (a b : Nat) (x y : Inf), a < b → l[a]? = some x → l[b]? = some y → cmpI id y < 0 → cmpI id x < 0 := ⟨_, rfl⟩
  obtain ⟨j, τ, lp, hj⟩ := loops_inv (f := f87_l1 (R (d + 1)) 8192)
    (fun q v u => ∃ lo hi : Nat, hi - lo ≤ q ∧ lo ≤ hi ∧ hi ≤ l.length ∧ v = [Z x, I .i64 id, Z (.clo 88 []), I .i64 ((l.length : Nat) : Int), I .i64 ((lo : Nat) : Int), I .i64 ((hi : Nat) : Int)] ∧ Gr s u ∧
      (Mono → (∀ (a : Nat) (y : Inf), a < lo → l[a]? = some y → cmpI id y < 0) ∧ ∀ (a : Nat) (y : Inf), hi ≤ a → l[a]? = some y → ¬ cmpI id y < 0))
    (fun j u => ∃ k : Nat, j = .exit 0 [Z x, I .i64 id, Z (.clo 88 []), I .i64 ((l.length : Nat) : Int), I .i64 ((k : Nat) : Int)] ∧ k ≤ l.length ∧ Gr s u ∧
      (Mono → (∀ (a : Nat) (y : Inf), a < k → l[a]? = some y → cmpI id y < 0) ∧ ∀ (a : Nat) (y : Inf), k ≤ a → l[a]? = some y → ¬ cmpI id y < 0)) (by
    rintro q v u ⟨lo, hi, hq, hlh, hhl, rfl, g, hinv⟩
    by_cases hlt : lo < hi
    · left
      obtain ⟨m, hm⟩ : ∃ m, m = (lo + hi) / 2 := ⟨_, rfl⟩
      have hm1 : lo ≤ m := by omega
      have hm2 : m < hi := by omega
      have hget : l[m]? = some l[m] := List.getElem?_eq_getElem (by omega)
      obtain ⟨y, hy⟩ : ∃ y, y = l[m] := ⟨_, rfl⟩
      rw [← hy] at hget
      have hu := h.keep (t := u) fun c hc => g.2.2 c (h.lt wf hc)
      obtain ⟨p, ix, ld⟩ := hu.atI (n := ((m : Nat) : Int)) rfl hget
      obtain ⟨t1, dy1, g1⟩ := dy u y g.wf
      have c0 : ((lo : Nat) : Int) < ((hi : Nat) : Int) := by omega
      have a1 : IntKind.i64.wrap ((lo : Int) + (hi : Int)) = ((lo + hi : Nat) : Int) := by rw [wrap_in _ (by omega) (by omega)]; omega
      have a2 : aConv .u64 (I .i64 ((lo + hi : Nat) : Int)) = some (I .u64 ((lo + hi : Nat) : Int)) := by
        show some (I .u64 (IntKind.u64.wrap ((lo + hi : Nat) : Int))) = _
        rw [wrap64 _ (by omega)]
      have a3 : aBin .shr (I .u64 ((lo + hi : Nat) : Int)) (I .u64 1) = some (I .u64 ((m : Nat) : Int)) := by
        have := shr_nat .u64 (lo + hi) 1 (by decide)
        rw [hm]
        exact this
      have a4 : aConv .i64 (I .u64 ((m : Nat) : Int)) = some (I .i64 ((m : Nat) : Int)) := by
        show some (I .i64 (IntKind.i64.wrap ((m : Nat) : Int))) = _
        rw [wrapi _ (by omega)]
      have w1 : IntKind.i64.wrap ((m : Int) + 1) = ((m + 1 : Nat) : Int) := by rw [wrap_in _ (by omega) (by omega)]; omega
      by_cases hc : cmpI id y < 0
      · refine ⟨[Z x, I .i64 id, Z (.clo 88 []), I .i64 ((l.length : Nat) : Int), I .i64 ((m + 1 : Nat) : Int), I .i64 ((hi : Nat) : Int)], t1, q - 1, ?_, by omega, m + 1, hi, by omega, by omega, hhl, rfl, g.trans g1, fun hmo => ⟨fun a z ha hz => ?_, (hinv hmo).2⟩⟩
        · unfold f87_l1
          generalize R (d + 1) = r at *
          generalize ((lo + hi : Nat) : Int) = LH at *
          generalize ((m + 1 : Nat) : Int) = M1 at *
          generalize ((m : Nat) : Int) = M at *
          generalize ((hi : Nat) : Int) = HI at *
          generalize ((lo : Nat) : Int) = LO at *
          generalize ((l.length : Nat) : Int) = LL at *
          simp [c0, a1, a2, a3, a4, ix, ld, dy1, hc, w1]
        · by_cases e : a = m
          · subst e; rw [hget] at hz; cases hz; exact hc
          · rw [hM] at hmo; exact hmo a m z y (by omega) hz hget hc
      · refine ⟨[Z x, I .i64 id, Z (.clo 88 []), I .i64 ((l.length : Nat) : Int), I .i64 ((lo : Nat) : Int), I .i64 ((m : Nat) : Int)], t1, q - 1, ?_, by omega, lo, m, by omega, by omega, by omega, rfl, g.trans g1, fun hmo => ⟨(hinv hmo).1, fun a z ha hz hz0 => ?_⟩⟩
        · unfold f87_l1
          generalize R (d + 1) = r at *
          generalize ((lo + hi : Nat) : Int) = LH at *
          generalize ((m + 1 : Nat) : Int) = M1 at *
          generalize ((m : Nat) : Int) = M at *
          generalize ((hi : Nat) : Int) = HI at *
          generalize ((lo : Nat) : Int) = LO at *
          generalize ((l.length : Nat) : Int) = LL at *
          simp [c0, a1, a2, a3, a4, ix, ld, dy1, hc]
        · by_cases e : a = m
          · subst e; rw [hget] at hz; cases hz; exact hc hz0
          · rw [hM] at hmo; exact hc (hmo m a y z (by omega) hget hz hz0)
    · right
      have hll : lo = hi := by omega
      subst hll
      refine ⟨_, u, ?_, (fun v hv => by cases hv), lo, rfl, hhl, g, hinv⟩
      have c0 : ¬ ((lo : Nat) : Int) < ((lo : Nat) : Int) := by omega
      unfold f87_l1
      simp [c0]) 8192 l.length [Z x, I .i64 id, Z (.clo 88 []), I .i64 ((l.length : Nat) : Int), I .i64 0, I .i64 ((l.length : Nat) : Int)] s
    ⟨0, l.length, by omega, by omega, by omega, rfl, Gr.refl wf, fun _ => ⟨fun a y ha => by omega, fun a y ha hy => by have := (List.getElem?_eq_some_iff.1 hy).1; omega⟩⟩ (by omega)
  obtain ⟨k, rfl, hk, g, hinv⟩ := hj
  rw [hM] at hinv
  have hF : Found l id k := ⟨hk, fun m => (hinv m).1, fun m => (hinv m).2⟩
  by_cases hkl : k < l.length
  · have hget : l[k]? = some l[k] := List.getElem?_eq_getElem hkl
    obtain ⟨y, hy⟩ : ∃ y, y = l[k] := ⟨_, rfl⟩
    rw [← hy] at hget
    have hu := h.keep (t := τ) fun c hc => g.2.2 c (h.lt wf hc)
    obtain ⟨p, ix, ld⟩ := hu.atI (n := ((k : Nat) : Int)) rfl hget
    obtain ⟨t1, dy1, g1⟩ := dy τ y g.wf
    have c0 : ((k : Nat) : Int) < ((l.length : Nat) : Int) := by omega
    have hh : hitI l id k = decide (cmpI id y = 0) := by simp only [hitI, hget]
    refine ⟨k, t1, ?_, g.trans g1, hF⟩
    rw [hh]
    clear hinv hF dy
    generalize R (d + 1) = r at *
    generalize ((k : Nat) : Int) = K at *
    generalize ((l.length : Nat) : Int) = LL at *
    generalize cmpI id y = CY at *
    simp [ll, lp, c0, ix, ld, dy1, retT, allV]
  · have hke : k = l.length := by omega
    have hh : hitI l id k = false := by simp only [hitI, List.getElem?_eq_none (by omega : l.length ≤ k)]
    have c0 : ¬ ((k : Nat) : Int) < ((l.length : Nat) : Int) := by omega
    refine ⟨k, τ, ?_, g, hF⟩
    rw [hh]
    clear hinv hF dy hke
    generalize R (d + 1) = r at *
    generalize ((k : Nat) : Int) = K at *
    generalize ((l.length : Nat) : Int) = LL at *
    simp [ll, lp, c0, retT, allV]

theorem prim_ins {σ : St} {ts : List T} : prim 74 ts σ = insP 74 5 74 ts σ := by
  have e1 : toldP 17 true 74 ts σ = none := by
    have : Nat.beq 74 17 = false := by decide
    simp only [toldP, this, Bool.false_and]
  have e2 : toldP 29 true 74 ts σ = none := by
    have : Nat.beq 74 29 = false := by decide
    simp only [toldP, this, Bool.false_and]
  have e3 : bigP Tryz.prog [18] 74 ts σ = none := by
    have : [18].contains 74 = false := by decide
    simp only [bigP, this]
  have e4 : delP 75 5 [.int .i64 0, .int .i64 0, .int .i64 0, .int .i64 0, .int .u32 0] 74 ts σ = none := by
    have : Nat.beq 74 75 = false := by decide
    simp only [delP, this]
  have e5 : prim1 74 ts σ = none := by
    have h1 : ixs.contains 74 = false := by decide
    have h2 : Nat.beq 74 103 = false := by decide
    have h3 : Nat.beq 74 79 = false := by decide
    have h4 : [122].contains 74 = false := by decide
    have h5 : prim0 74 ts σ = none := by
      simp only [prim0, orP, ixP, h1, h2, joinP, h3]
    exact (orP_right h5).trans (by simp only [pureP, h4, Bool.false_and])
  refine (orP_right e1).trans ((orP_right e2).trans ?_)
  cases h : insP 74 5 74 ts σ with
  | some r => exact orP_left ((orP_right e3).trans ((orP_right e4).trans h))
  | none => exact (orP_right ((orP_right e3).trans ((orP_right e4).trans h))).trans e5

theorem prim_del {σ : St} {ts : List T} {r : T × St} (h : delP 75 5 [.int .i64 0, .int .i64 0, .int .i64 0, .int .i64 0, .int .u32 0] 75 ts σ = some r) : prim 75 ts σ = some r := by
  have e1 : toldP 17 true 75 ts σ = none := by
    have : Nat.beq 75 17 = false := by decide
    simp only [toldP, this, Bool.false_and]
  have e2 : toldP 29 true 75 ts σ = none := by
    have : Nat.beq 75 29 = false := by decide
    simp only [toldP, this, Bool.false_and]
  have e3 : bigP Tryz.prog [18] 75 ts σ = none := by
    have : [18].contains 75 = false := by decide
    simp only [bigP, this]
  exact (orP_right e1).trans ((orP_right e2).trans (orP_left ((orP_right e3).trans (orP_left h))))

theorem insP_at {f0 e i o n q j p m c : Nat} {k : Int} {σ : St} {vs us : List S} (hi : σ.get i = some (.cells true vs)) (hj : σ.get j = some (.cells true us))
    (hd : decide (q = e ∧ o = 0 ∧ 0 ≤ k ∧ k < n ∧ m = 1 ∧ c = 1 ∧ n ≤ 1000000 ∧ n * e ≤ vs.length ∧ i ≠ j ∧ p + e ≤ us.length ∧ e ≠ 0) = true) :
    insP f0 e f0 [Z (.sl i o n (.grown q)), I .i64 k, Z (.sl j p m (.known c))] σ = some (Z (.sl σ.size 0 (n + 1) (.grown e)), (σ.set i .dead).push (.cells true (vs.take (k.toNat * e) ++ (us.drop p).take e ++ (vs.drop (k.toNat * e)).take ((n - k.toNat) * e)))) := by
  have hn : Nat.beq f0 f0 = true := Nat.beq_refl f0
  delta insP
  dsimp only
  rw [hn]
  dsimp only
  rw [hi, hj]
  dsimp only
  rw [hd]

theorem insP_not {f0 e i o n q j p m c : Nat} {k : Int} {σ : St} {vs us : List S} (hi : σ.get i = some (.cells true vs)) (hj : σ.get j = some (.cells true us))
    (hd : decide (q = e ∧ o = 0 ∧ 0 ≤ k ∧ k < n ∧ m = 1 ∧ c = 1 ∧ n ≤ 1000000 ∧ n * e ≤ vs.length ∧ i ≠ j ∧ p + e ≤ us.length ∧ e ≠ 0) = false) :
    insP f0 e f0 [Z (.sl i o n (.grown q)), I .i64 k, Z (.sl j p m (.known c))] σ = none := by
  have hn : Nat.beq f0 f0 = true := Nat.beq_refl f0
  delta insP
  dsimp only
  rw [hn]
  dsimp only
  rw [hi, hj]
  dsimp only
  rw [hd]

theorem delP_at {f0 e i o n q : Nat} {a b : Int} {z : List S} {σ : St} {vs : List S} (hi : σ.get i = some (.cells true vs)) (hd : decide (q = e ∧ 0 ≤ a ∧ b = a + 1 ∧ b ≤ n ∧ n ≤ 1000000 ∧ o + n * e ≤ vs.length) = true) :
    delP f0 e z f0 [Z (.sl i o n (.grown q)), I .i64 a, I .i64 b] σ = some (Z (.sl i o (n - 1) (.grown e)), (σ.set i (.cells true (setRange vs (o + a.toNat * e) ((vs.drop (o + (a.toNat + 1) * e)).take ((n - 1 - a.toNat) * e))))).set i (.cells true (setRange (setRange vs (o + a.toNat * e) ((vs.drop (o + (a.toNat + 1) * e)).take ((n - 1 - a.toNat) * e))) (o + (n - 1) * e) z))) := by
  have hn : Nat.beq f0 f0 = true := Nat.beq_refl f0
  delta delP
  dsimp only
  rw [hn]
  dsimp only
  rw [hi]
  dsimp only
  rw [hd]

theorem insBody (d : Nat) {a0 a1 a2 : T} {s : St} (hp : prim 74 [a0, a1, a2] s = none) : R (d + 1) 74 [a0, a1, a2] s = f74 (R d) 8192 a0 a1 a2 s :=
  (runQ_body hp Tryz.func74 (by kernel_rfl)).trans (f74_eq _ _ _ _ _ _)

/-- What an insertion or a removal leaves. -/
structure NewI (s t : St) (x y : S) (l : List Inf) : Prop where
  wf : t.wf
  le : s.size ≤ t.size
  ins : InS t y l
  old : ∀ b, b < s.size → own x ≠ some b → t.get b = s.get b
  new : ∀ c, own y = some c → own x = some c ∨ s.size ≤ c

theorem ins_run (d : Nat) (wf : s.wf) (h : InS s x l) (hl : l.length ≤ 8000) {k j : Nat} (hk : k ≤ l.length) {a : Inf} (hj : s.get j = some (.cells true (cI a))) (hjx : ∀ c, own x = some c → c ≠ j) :
    ∃ y t, R (d + 1) 74 [Z x, I .i64 ((k : Nat) : Int), Z (.sl j 0 1 (.known 1))] s = some (Z y, t) ∧ NewI s t x y (l.take k ++ a :: l.drop k) := by
  have hcl := cells_len (e := 5) cI_len l
  have hjs := wf.lt hj
  have src : aSrc 5 (Z (.sl j 0 1 (.known 1))) s.get = some (1, cI a) := by
    simp only [aSrc, if_neg (show ¬ (1 : Nat) = 0 by decide), hj]
    rw [if_pos (show 0 + 1 * 5 ≤ (cI a).length by simp [cI])]
    rfl
  have le2 : aLenSl (Z (.sl j 0 1 (.known 1))) = some (I .i64 1) := rfl
  have f1 : aBin .eql (I .i64 1) (I .i64 0) = some (B false) := rfl
  rcases h with ⟨rfl, rfl⟩ | ⟨c, vs, rfl, hb, ht⟩
  · -- a nil list
    have hk0 : k = 0 := by simpa using hk
    subst hk0
    have hp : prim 74 [Z .nils, I .i64 ((0 : Nat) : Int), Z (.sl j 0 1 (.known 1))] s = none := by
      rw [prim_ins]; rfl
    rw [insBody d hp]
    unfold f74
    have p1 : aPieceSl 5 (Z .nils) (some (I .i64 ((0 : Nat) : Int))) none none = some (Z .nils) := rfl
    have ap : aAppend 5 40 (Z .nils) (Z (.sl j 0 1 (.known 1))) s = some (Z (.sl s.size 0 1 (.grown 5)), s.push (.cells true (cI a))) := by
      simp only [aAppend, src]
      rfl
    have e0 : aLenSl (Z .nils) = some (I .i64 ((0 : Nat) : Int)) := rfl
    have f2 : aBin .eql (I .i64 ((0 : Nat) : Int)) (I .i64 ((0 : Nat) : Int)) = some (B true) := rfl
    refine ⟨.sl s.size 0 1 (.grown 5), s.push (.cells true (cI a)), ?_, St.wf_push wf _, by simp, .inr ⟨s.size, cI a, rfl, St.get_push_same _ _, by simp [cells, cI]⟩, fun b hb _ => St.get_push_ne _ _ (by omega), fun c hc => by cases hc; exact .inr (Nat.le_refl _)⟩
    simp only [p1, bd_some, le2, f1, br_false, e0, f2, br_true, ap, bd2_some]
  · have hcj : c ≠ j := hjx c rfl
    have hvl : l.length * 5 ≤ vs.length := by
      have := congrArg List.length ht
      rw [List.length_take, hcl] at this
      omega
    have hcs := wf.lt hb
    by_cases hkl : k < l.length
    · -- ahead of another
      have hd : decide ((5 : Nat) = 5 ∧ (0 : Nat) = 0 ∧ (0 : Int) ≤ ((k : Nat) : Int) ∧ ((k : Nat) : Int) < ((l.length : Nat) : Int) ∧ (1 : Nat) = 1 ∧ (1 : Nat) = 1 ∧ l.length ≤ 1000000 ∧ l.length * 5 ≤ vs.length ∧ c ≠ j ∧ 0 + 5 ≤ (cI a).length ∧ (5 : Nat) ≠ 0) = true :=
        decide_eq_true ⟨rfl, rfl, by omega, by omega, rfl, rfl, by omega, hvl, hcj, by simp [cI], by decide⟩
      have hi : insP 74 5 74 [Z (.sl c 0 l.length (.grown 5)), I .i64 ((k : Nat) : Int), Z (.sl j 0 1 (.known 1))] s =
          some (Z (.sl s.size 0 (l.length + 1) (.grown 5)), (s.set c .dead).push (.cells true (vs.take (k * 5) ++ ((cI a).drop 0).take 5 ++ (vs.drop (k * 5)).take ((l.length - k) * 5)))) := by
        rw [insP_at hb hj hd, Int.toNat_natCast]
      have hr := runQ_prim (P := Tryz.prog) (N := 8192) (d := d) (prim_ins.trans hi)
      refine ⟨_, _, hr, St.wf_push (St.wf_set wf hcs _) _, by simp, .inr ⟨s.size, vs.take (k * 5) ++ ((cI a).drop 0).take 5 ++ (vs.drop (k * 5)).take ((l.length - k) * 5), ?_, ?_, ?_⟩, fun b hb' hne => ?_, fun d hd => by cases hd; exact .inr (Nat.le_refl _)⟩
      · have : (l.take k ++ a :: l.drop k).length = l.length + 1 := by simp; omega
        rw [this]
      · exact St.get_push_same (s.set c .dead) _
      · have e1 : (cI a).drop 0 = cI a := rfl
        have e2 : (cI a).take 5 = cI a := rfl
        have e3 : vs.take (k * 5) = cells cI (l.take k) := by
          rw [← cells_take (e := 5) cI_len k l, ← ht, List.take_take]
          congr 1; omega
        have e4 : (vs.drop (k * 5)).take ((l.length - k) * 5) = cells cI (l.drop k) := by
          rw [← cells_drop (e := 5) cI_len k l, ← ht, List.drop_take]
          congr 1; omega
        have e5 : cells cI (l.take k ++ a :: l.drop k) = cells cI (l.take k) ++ cI a ++ cells cI (l.drop k) := by
          simp [cells]
        rw [e1, e2, e3, e4, ← e5, List.take_of_length_le]
        rw [cells_len (e := 5) cI_len]
        omega
      · rw [St.get_push_ne (s.set c .dead) _ (by simp; omega), St.get_set_ne _ _ (fun e => hne (by rw [e]; rfl))]
    · -- at the end
      have hke : k = l.length := by omega
      subst hke
      have hd : decide ((5 : Nat) = 5 ∧ (0 : Nat) = 0 ∧ (0 : Int) ≤ ((l.length : Nat) : Int) ∧ ((l.length : Nat) : Int) < ((l.length : Nat) : Int) ∧ (1 : Nat) = 1 ∧ (1 : Nat) = 1 ∧ l.length ≤ 1000000 ∧ l.length * 5 ≤ vs.length ∧ c ≠ j ∧ 0 + 5 ≤ (cI a).length ∧ (5 : Nat) ≠ 0) = false :=
        decide_eq_false fun h => by omega
      have hp : prim 74 [Z (.sl c 0 l.length (.grown 5)), I .i64 ((l.length : Nat) : Int), Z (.sl j 0 1 (.known 1))] s = none := by
        rw [prim_ins, insP_not hb hj hd]
      rw [insBody d hp]
      unfold f74
      have p1 : aPieceSl 5 (Z (.sl c 0 l.length (.grown 5))) (some (I .i64 ((l.length : Nat) : Int))) none none = some (Z (.emp c 5)) := by
        simp only [aPieceSl, aBounds_lo (Nat.le_refl l.length) (Nat.le_refl l.length), if_pos trivial, if_neg (Nat.lt_irrefl _)]
      have e0 : aLenSl (Z (.sl c 0 l.length (.grown 5))) = some (I .i64 ((l.length : Nat) : Int)) := rfl
      have f2 : aBin .eql (I .i64 ((l.length : Nat) : Int)) (I .i64 ((l.length : Nat) : Int)) = some (B true) := by
        rw [eql_int, decide_eq_true rfl]
      have hsz : (l.take l.length ++ a :: l.drop l.length).length = l.length + 1 := by simp
      have hlast : l.take l.length ++ a :: l.drop l.length = l ++ [a] := by simp
      have hcell : cells cI (l ++ [a]) = cells cI l ++ cI a := by simp [cells]
      have c1 : True ∧ (l.length + 1) * 40 ≤ 140737488355328 := ⟨trivial, by omega⟩
      by_cases hroom : 0 + (l.length + 1) * 5 ≤ vs.length
      · have ap : aAppend 5 40 (Z (.sl c 0 l.length (.grown 5))) (Z (.sl j 0 1 (.known 1))) s = some (Z (.sl c 0 (l.length + 1) (.grown 5)), s.set c (.cells true (setRange vs (0 + l.length * 5) (cI a)))) := by
          simp only [aAppend, src, if_neg (show ¬ (5 : Nat) = 0 by decide), if_neg (show ¬ (1 : Nat) = 0 by decide), hb]
          rw [if_pos c1, if_pos hroom]
        refine ⟨.sl c 0 (l.length + 1) (.grown 5), s.set c (.cells true (setRange vs (0 + l.length * 5) (cI a))), by simp only [p1, bd_some, le2, f1, br_false, e0, f2, br_true, ap, bd2_some], St.wf_set wf hcs _, by simp, .inr ⟨c, _, by rw [hsz], St.get_set_same _ _ _, ?_⟩, fun b hb' hne => St.get_set_ne _ _ (fun e => hne (by rw [e]; rfl)), fun d hd => .inl hd⟩
        rw [hlast, hcell, setRange_eq _ _ _ (by simp [cI]; omega), Nat.zero_add, ht, List.take_left']
        simp [hcl, cI]; omega
      · have ap : aAppend 5 40 (Z (.sl c 0 l.length (.grown 5))) (Z (.sl j 0 1 (.known 1))) s = some (Z (.sl s.size 0 (l.length + 1) (.grown 5)), (s.set c .dead).push (.cells true ((vs.drop 0).take (l.length * 5) ++ cI a))) := by
          simp only [aAppend, src, if_neg (show ¬ (5 : Nat) = 0 by decide), if_neg (show ¬ (1 : Nat) = 0 by decide), hb]
          rw [if_pos c1, if_neg hroom, if_pos (by omega)]
        refine ⟨.sl s.size 0 (l.length + 1) (.grown 5), (s.set c .dead).push (.cells true ((vs.drop 0).take (l.length * 5) ++ cI a)), by simp only [p1, bd_some, le2, f1, br_false, e0, f2, br_true, ap, bd2_some], St.wf_push (St.wf_set wf hcs _) _, by simp, .inr ⟨s.size, _, by rw [hsz], St.get_push_same (s.set c .dead) _, ?_⟩, fun b hb' hne => ?_, fun d hd => by cases hd; exact .inr (Nat.le_refl _)⟩
        · rw [hlast, hcell, List.drop_zero, ht, List.take_of_length_le]
          simp [hcl, cI]; omega
        · rw [St.get_push_ne (s.set c .dead) _ (by simp; omega), St.get_set_ne _ _ (fun e => hne (by rw [e]; rfl))]

theorem del_run (d : Nat) (wf : s.wf) (h : InS s x l) (hl : l.length ≤ 8000) {k : Nat} (hk : k < l.length) :
    ∃ y t, R (d + 1) 75 [Z x, I .i64 ((k : Nat) : Int), I .i64 ((k + 1 : Nat) : Int)] s = some (Z y, t) ∧ NewI s t x y (l.take k ++ l.drop (k + 1)) := by
  have hcl := cells_len (e := 5) cI_len l
  rcases h with ⟨rfl, rfl⟩ | ⟨c, vs, rfl, hb, ht⟩
  · simp at hk
  · have hvl : l.length * 5 ≤ vs.length := by
      have := congrArg List.length ht
      rw [List.length_take, hcl] at this
      omega
    have hcs := wf.lt hb
    have hd : decide ((5 : Nat) = 5 ∧ (0 : Int) ≤ ((k : Nat) : Int) ∧ ((k + 1 : Nat) : Int) = ((k : Nat) : Int) + 1 ∧ ((k + 1 : Nat) : Int) ≤ ((l.length : Nat) : Int) ∧ l.length ≤ 1000000 ∧ 0 + l.length * 5 ≤ vs.length) = true :=
      decide_eq_true ⟨rfl, by omega, by omega, by omega, by omega, by omega⟩
    obtain ⟨A, hA⟩ : ∃ A, A = setRange vs (0 + k * 5) ((vs.drop (0 + (k + 1) * 5)).take ((l.length - 1 - k) * 5)) := ⟨_, rfl⟩
    obtain ⟨Bl, hB⟩ : ∃ Bl, Bl = setRange A (0 + (l.length - 1) * 5) [.int .i64 0, .int .i64 0, .int .i64 0, .int .i64 0, .int .u32 0] := ⟨_, rfl⟩
    have hi : delP 75 5 [.int .i64 0, .int .i64 0, .int .i64 0, .int .i64 0, .int .u32 0] 75 [Z (.sl c 0 l.length (.grown 5)), I .i64 ((k : Nat) : Int), I .i64 ((k + 1 : Nat) : Int)] s =
        some (Z (.sl c 0 (l.length - 1) (.grown 5)), (s.set c (.cells true A)).set c (.cells true Bl)) := by
      rw [delP_at hb hd, Int.toNat_natCast, ← hA, ← hB]
    have hr := runQ_prim (P := Tryz.prog) (N := 8192) (d := d) (prim_del hi)
    have hsz : (l.take k ++ l.drop (k + 1)).length = l.length - 1 := by simp; omega
    refine ⟨_, _, hr, St.wf_set (St.wf_set wf hcs _) (by simpa using hcs) _, by simp, .inr ⟨c, Bl, by rw [hsz], St.get_set_same _ _ _, ?_⟩, fun b hb' hne => ?_, fun d hd => .inl hd⟩
    · have e3 : vs.take (k * 5) = cells cI (l.take k) := by
        rw [← cells_take (e := 5) cI_len k l, ← ht, List.take_take]
        congr 1; omega
      have e4 : (vs.drop ((k + 1) * 5)).take ((l.length - 1 - k) * 5) = cells cI (l.drop (k + 1)) := by
        rw [← cells_drop (e := 5) cI_len (k + 1) l, ← ht, List.drop_take]
        congr 1; omega
      have hln : ((vs.drop ((k + 1) * 5)).take ((l.length - 1 - k) * 5)).length = (l.length - 1 - k) * 5 := by simp; omega
      have hAl : A.length = vs.length := by rw [hA, setRange_length]
      have e6 : A.take ((l.length - 1) * 5) = cells cI (l.take k) ++ cells cI (l.drop (k + 1)) := by
        rw [hA, Nat.zero_add, Nat.zero_add, setRange_eq _ _ _ (by rw [hln]; omega), e3, e4, List.take_left']
        rw [List.length_append, cells_len (e := 5) cI_len, cells_len (e := 5) cI_len]
        simp; omega
      have e7 : Bl.take ((l.length - 1) * 5) = A.take ((l.length - 1) * 5) := by
        rw [hB, Nat.zero_add, setRange_eq _ _ _ (by simp; omega), List.append_assoc, List.take_left']
        simp; omega
      rw [hsz, e7, e6, cells_append]
    · have hne' : b ≠ c := fun e => hne (by rw [e]; rfl)
      rw [St.get_set_ne _ _ hne', St.get_set_ne _ _ hne']
end
end Go.Proofs.YtlhbidbdmdcdeaaGreatDoor

/-
  What entries come to, one by one, in plain words. No conditions but those named in each line.
-/
namespace Go.Proofs.YtlhbidbdmdcdeaaGreatDoor
open Go Go.Abs Go.Abs.F
set_option linter.unusedVariables false

structure FoS where
  l : List Inf
  ever : List Int
  rule : Pol
  v : Int
  w : Int

def lowI (id : Int) (a : Inf) : Bool := decide (a.i < id)
def kOf (l : List Inf) (id : Int) : Nat := (l.takeWhile (lowI id)).length
def thereP (l : List Inf) (id : Int) : Bool := l.any fun a => decide (a.i = id)
def infE (e : Ent) : Inf := ⟨e.i, e.t, e.f, e.o, e.u⟩
def insL (l : List Inf) (a : Inf) : List Inf := l.take (kOf l a.i) ++ a :: l.drop (kOf l a.i)
def delL (l : List Inf) (id : Int) : List Inf := l.take (kOf l id) ++ l.drop (kOf l id + 1)
def asksP (q : FoS) (e : Ent) : Int :=
  if mayE e = true then (if e.k = 1 ∧ e.i ∈ q.ever then 7 else if e.k = 2 ∧ thereP q.l e.i = false then 9 else if e.v < q.w then 12 else 0) else 1
def nextP (q : FoS) (e : Ent) : FoS :=
  if e.k = 1 then ⟨insL q.l (infE e), q.ever ++ [e.i], q.rule, q.v, e.v⟩
  else if e.k = 2 then ⟨delL q.l e.i, q.ever, q.rule, q.v, e.v⟩
  else if e.k = 3 then ⟨q.l, q.ever, q.rule, e.v, e.v⟩
  else ⟨q.l, q.ever, (parseP e.x).1, q.v, e.v⟩
def foldGo (q : FoS) : List Ent → Int × FoS
  | [] => (0, q)
  | e :: r => if asksP q e = 0 then foldGo (nextP q e) r else (asksP q e, q)
def fs0 : FoS := ⟨[], [], polD, 0, 0⟩

structure FOk (q : FoS) : Prop where
  up : q.l.Pairwise fun a b => a.i < b.i
  rng : ∀ a ∈ q.l, 1 ≤ a.i ∧ a.i ≤ 1073741824
  ev : ∀ a ∈ q.l, a.i ∈ q.ever
  len : q.l.length ≤ q.ever.length

theorem fs0_ok : FOk fs0 := ⟨.nil, (by intro a h; simp [fs0] at h), (by intro a h; simp [fs0] at h), Nat.le_refl _⟩

theorem tw_len {α : Type} {p : α → Bool} : ∀ (l : List α) (k : Nat), k ≤ l.length → (∀ (a : Nat) (x : α), a < k → l[a]? = some x → p x = true) → (∀ x, l[k]? = some x → p x = false) → (l.takeWhile p).length = k
  | [], k, h, _, _ => by simp at h; subst h; rfl
  | a :: l, 0, _, _, h => by
    have := h a rfl
    simp [List.takeWhile_cons, this]
  | a :: l, k + 1, hk, h1, h2 => by
    have h0 := h1 0 a (by omega) rfl
    rw [List.takeWhile_cons, h0]
    simp only [if_true, List.length_cons]
    rw [tw_len l k (by simpa using hk) (fun b x hb hx => h1 (b + 1) x (by omega) (by simpa using hx)) (fun x hx => h2 x (by simpa using hx))]

theorem take_kOf (l : List Inf) (id : Int) : l.take (kOf l id) = l.takeWhile (lowI id) := by
  unfold kOf
  induction l with
  | nil => rfl
  | cons a l ih =>
    rw [List.takeWhile_cons]
    split
    · rw [List.length_cons, List.take_succ_cons, ih]
    · rfl

theorem drop_kOf (l : List Inf) (id : Int) : l.drop (kOf l id) = l.dropWhile (lowI id) := by
  unfold kOf
  induction l with
  | nil => rfl
  | cons a l ih =>
    rw [List.takeWhile_cons, List.dropWhile_cons]
    split
    · rw [List.length_cons, List.drop_succ_cons, ih]
    · rfl

theorem low_take {l : List Inf} {id : Int} {a : Inf} (h : a ∈ l.take (kOf l id)) : a.i < id := by
  rw [take_kOf] at h
  have : ∀ m : List Inf, a ∈ m.takeWhile (lowI id) → a.i < id := by
    intro m
    induction m with
    | nil => intro h; cases h
    | cons b m ih =>
      intro h
      rw [List.takeWhile_cons] at h
      split at h
      · rename_i hb
        rcases List.mem_cons.1 h with rfl | h
        · simpa [lowI] using hb
        · exact ih h
      · cases h
  exact this l h

theorem high_drop {l : List Inf} {id : Int} (hp : l.Pairwise fun a b => a.i < b.i) {a : Inf} (h : a ∈ l.drop (kOf l id)) : id ≤ a.i := by
  rw [drop_kOf] at h
  have : ∀ m : List Inf, (m.Pairwise fun a b => a.i < b.i) → a ∈ m.dropWhile (lowI id) → id ≤ a.i := by
    intro m
    induction m with
    | nil => intro _ h; cases h
    | cons b m ih =>
      intro hp h
      rw [List.dropWhile_cons] at h
      split at h
      · exact ih (List.pairwise_cons.1 hp).2 h
      · rename_i hb
        have hb' : id ≤ b.i := by simpa [lowI] using hb
        rcases List.mem_cons.1 h with rfl | h
        · exact hb'
        · have := (List.pairwise_cons.1 hp).1 a h
          omega
  exact this l hp h

theorem up_at {l : List Inf} (hp : l.Pairwise fun a b => a.i < b.i) {a b : Nat} {x y : Inf} (hab : a < b) (hx : l[a]? = some x) (hy : l[b]? = some y) : x.i < y.i := by
  obtain ⟨h1, rfl⟩ := List.getElem?_eq_some_iff.1 hx
  obtain ⟨h2, rfl⟩ := List.getElem?_eq_some_iff.1 hy
  exact List.pairwise_iff_getElem.1 hp a b h1 h2 hab

/-- A search among numbers that rise. -/
theorem found_eq {l : List Inf} {id : Int} {k : Nat} (h : Found l id k) (hp : l.Pairwise fun a b => a.i < b.i) (hr : ∀ a ∈ l, 1 ≤ a.i ∧ a.i ≤ 1073741824) (h0 : 1 ≤ id) (h1 : id ≤ 1073741824) : k = kOf l id ∧ hitI l id k = thereP l id := by
  have hc : ∀ a ∈ l, cmpI id a = a.i - id := fun a ha => by
    have := hr a ha
    exact cmpI_in (by omega) h1 (by omega) this.2
  have hm : ∀ (a b : Nat) (x y : Inf), a < b → l[a]? = some x → l[b]? = some y → cmpI id y < 0 → cmpI id x < 0 := fun a b x y hab hx hy hlt => by
    have := up_at hp hab hx hy
    rw [hc y (List.mem_of_getElem? hy)] at hlt
    rw [hc x (List.mem_of_getElem? hx)]
    omega
  have hl : ∀ (a : Nat) (x : Inf), a < k → l[a]? = some x → x.i < id := fun a x ha hx => by
    have := h.low hm a x ha hx
    rw [hc x (List.mem_of_getElem? hx)] at this
    omega
  have hh : ∀ (a : Nat) (x : Inf), k ≤ a → l[a]? = some x → id ≤ x.i := fun a x ha hx => by
    have := h.high hm a x ha hx
    rw [hc x (List.mem_of_getElem? hx)] at this
    omega
  refine ⟨(tw_len l k h.le (fun a x ha hx => decide_eq_true (hl a x ha hx)) (fun x hx => decide_eq_false (by have := hh k x (Nat.le_refl _) hx; omega))).symm, ?_⟩
  unfold hitI thereP
  cases hk : l[k]? with
  | none =>
    symm
    rw [List.any_eq_false]
    intro x hx
    obtain ⟨a, ha⟩ := List.getElem?_of_mem hx
    have hle : l.length ≤ k := List.getElem?_eq_none_iff.1 hk
    have := hl a x (by have := (List.getElem?_eq_some_iff.1 ha).1; omega) ha
    simp only [decide_eq_true_eq]
    omega
  | some y =>
    have hy := List.mem_of_getElem? hk
    show decide (cmpI id y = 0) = _
    rw [hc y hy]
    by_cases e : y.i = id
    · rw [decide_eq_true (by omega)]
      symm
      rw [List.any_eq_true]
      exact ⟨y, hy, by simpa using e⟩
    · rw [decide_eq_false (by omega)]
      symm
      rw [List.any_eq_false]
      intro x hx
      obtain ⟨a, ha⟩ := List.getElem?_of_mem hx
      simp only [decide_eq_true_eq]
      intro ex
      have hyk := hh k y (Nat.le_refl _) hk
      rcases Nat.lt_trichotomy a k with hlt | rfl | hgt
      · have := hl a x hlt ha; omega
      · rw [ha] at hk; cases hk; exact e ex
      · have := up_at hp hgt hk ha; omega

theorem kOf_lt {l : List Inf} {id : Int} (hp : l.Pairwise fun a b => a.i < b.i) (h : thereP l id = true) : kOf l id < l.length := by
  unfold thereP at h
  rw [List.any_eq_true] at h
  obtain ⟨x, hx, ex⟩ := h
  have ex' : x.i = id := by simpa using ex
  have hd : x ∈ l.drop (kOf l id) := by
    have hx' := hx
    rw [← List.take_append_drop (kOf l id) l] at hx'
    rcases List.mem_append.1 hx' with h | h
    · have := low_take h; omega
    · exact h
  rcases Nat.lt_or_ge (kOf l id) l.length with h | h
  · exact h
  · rw [List.drop_eq_nil_of_le h] at hd; cases hd

theorem kOf_le (l : List Inf) (id : Int) : kOf l id ≤ l.length := (List.takeWhile_sublist _).length_le

theorem insL_mem {l : List Inf} {a b : Inf} (h : b ∈ insL l a) : b = a ∨ b ∈ l := by
  unfold insL at h
  rcases List.mem_append.1 h with h | h
  · exact .inr (List.mem_of_mem_take h)
  · rcases List.mem_cons.1 h with h | h
    · exact .inl h
    · exact .inr (List.mem_of_mem_drop h)

theorem delL_sub (l : List Inf) (id : Int) : (delL l id).Sublist l := by
  have h := List.take_append_drop (kOf l id) l
  conv => rhs; rw [← h]
  exact List.Sublist.append (List.Sublist.refl _) (by rw [← List.drop_drop]; exact List.drop_sublist 1 _)

theorem next_ok {q : FoS} {e : Ent} (h : FOk q) (ha : asksP q e = 0) : FOk (nextP q e) := by
  have hm : mayE e = true := by
    unfold asksP at ha
    by_cases hm : mayE e = true
    · exact hm
    · rw [if_neg hm] at ha; cases ha
  obtain ⟨v0, v1, k0, k1, h1, h2, h3, h4⟩ := mayE_range hm
  unfold nextP
  by_cases c1 : e.k = 1
  · rw [if_pos c1]
    have hne : e.i ∉ q.ever := by
      unfold asksP at ha
      rw [if_pos hm] at ha
      intro hin
      rw [if_pos ⟨c1, hin⟩] at ha
      cases ha
    obtain ⟨_, i0, i1, _⟩ := h1 c1
    refine ⟨?_, fun a ha => ?_, fun a ha => ?_, ?_⟩
    · show (insL q.l (infE e)).Pairwise _
      unfold insL
      refine List.pairwise_append.2 ⟨h.up.sublist (List.take_sublist _ _), List.pairwise_cons.2 ⟨fun b hb => ?_, h.up.sublist (List.drop_sublist _ _)⟩, fun a ha b hb => ?_⟩
      · have hb1 := high_drop h.up hb
        have hb2 := h.ev b (List.mem_of_mem_drop hb)
        have : b.i ≠ e.i := fun he => hne (by rw [← he]; exact hb2)
        show e.i < b.i
        have : e.i ≤ b.i := hb1
        omega
      · have ha1 := low_take ha
        rcases List.mem_cons.1 hb with rfl | hb
        · exact ha1
        · have := high_drop h.up hb
          omega
    · rcases insL_mem ha with rfl | ha
      · exact ⟨i0, i1⟩
      · exact h.rng a ha
    · rcases insL_mem ha with rfl | ha
      · exact List.mem_append_right _ (by simp [infE])
      · exact List.mem_append_left _ (h.ev a ha)
    · have := h.len
      simp only [insL, List.length_append, List.length_take, List.length_cons, List.length_drop, List.length_nil]
      have := kOf_le q.l (infE e).i
      omega
  · rw [if_neg c1]
    by_cases c2 : e.k = 2
    · rw [if_pos c2]
      have hs := delL_sub q.l e.i
      exact ⟨h.up.sublist hs, fun a ha => h.rng a (hs.subset ha), fun a ha => h.ev a (hs.subset ha), Nat.le_trans hs.length_le h.len⟩
    · rw [if_neg c2]
      by_cases c3 : e.k = 3
      · rw [if_pos c3]; exact ⟨h.up, h.rng, h.ev, h.len⟩
      · rw [if_neg c3]; exact ⟨h.up, h.rng, h.ev, h.len⟩

theorem next_ever {q : FoS} {e : Ent} : (nextP q e).ever.length ≤ q.ever.length + 1 := by
  unfold nextP
  split
  · simp
  · split
    · simp
    · split <;> simp
end Go.Proofs.YtlhbidbdmdcdeaaGreatDoor

/-
  A state of entries in a store: what is asked, what comes next. No conditions but those named in each line.
-/
namespace Go.Proofs.YtlhbidbdmdcdeaaGreatDoor
open Go Go.Abs Go.Abs.F
set_option linter.unusedVariables false

def mapE (ever : List Int) : List (S × V) := ever.map fun i => (S.int .i64 i, V.s (.bool true))
def cF (x : S) (mp : Nat) (q : FoS) : List S := [x, .map mp, .int .i64 q.rule.a0, .int .i64 q.rule.a1, .int .i64 q.rule.a2, .int .i64 q.rule.a3, .int .i64 q.rule.c, .int .i64 q.rule.n, .int .i64 q.v, .int .i64 q.w]

theorem find_ever (i : Int) : ∀ (l : List Int) (k : Nat), (i ∈ l → ∃ j, aFind (.int .i64 i) (mapE l) k = some (some (j, V.s (.bool true)))) ∧ (i ∉ l → aFind (.int .i64 i) (mapE l) k = some none)
  | [], k => ⟨fun h => by simp at h, fun _ => rfl⟩
  | a :: l, k => by
    obtain ⟨h1, h2⟩ := find_ever i l (k + 1)
    by_cases e : i = a
    · subst e
      refine ⟨fun _ => ⟨k, by simp [mapE, aFind, keyEq]⟩, fun h => (h (by simp)).elim⟩
    · have hk : aFind (.int .i64 i) (mapE (a :: l)) k = aFind (.int .i64 i) (mapE l) (k + 1) := by simp [mapE, aFind, keyEq, e]
      rw [hk]
      exact ⟨fun h => h1 (by rcases List.mem_cons.1 h with h | h; exact (e h).elim; exact h), fun h => h2 fun hh => h (List.mem_cons_of_mem _ hh)⟩

theorem look_ever {g : Mem} {mp : Nat} {ever : List Int} (h : g mp = some (.map (mapE ever))) (i : Int) : Go.Abs.F.look .i false (.s (.bool false)) (Z (.map mp)) (I .i64 i) g = some (B (decide (i ∈ ever))) := by
  obtain ⟨h1, h2⟩ := find_ever i ever 0
  have hk : isKey .i (I .i64 i) = true := rfl
  unfold Go.Abs.F.look
  rw [if_pos hk]
  by_cases hi : i ∈ ever
  · obtain ⟨j, hj⟩ := h1 hi
    simp only [aLookup, h, hj, decide_eq_true hi]
    rfl
  · simp only [aLookup, h, h2 hi, decide_eq_false hi]
    rfl

section
variable {s0 s t : St} {b mp : Nat} {q : FoS} {x y : S} {e : Ent}

theorem mset_ever {ever : List Int} (h : s.get mp = some (.map (mapE ever))) {i : Int} (hi : i ∉ ever) : mset .i (Z (.map mp)) (I .i64 i) (B true) s = some (tt, s.set mp (.map (mapE (ever ++ [i])))) := by
  obtain ⟨_, h2⟩ := find_ever i ever 0
  have hk : isKey .i (I .i64 i) = true := rfl
  unfold mset
  rw [if_pos hk]
  simp only [aMapSet, h, h2 hi]
  simp [mapE]

structure HF (s0 s : St) (b : Nat) (q : FoS) (x : S) (mp : Nat) : Prop where
  gr : Gr s0 s
  hb : s0.size ≤ b
  hm : s0.size ≤ mp
  st : s.get b = some (.cells true (cF x mp q))
  mpE : s.get mp = some (.map (mapE q.ever))
  ins : InS s x q.l
  ow : ∀ c, own x = some c → s0.size ≤ c ∧ c ≠ b ∧ c ≠ mp

theorem HF.bm (h : HF s0 s b q x mp) : b ≠ mp := fun e => by
  have h1 := h.st
  rw [e, h.mpE] at h1
  cases h1

theorem HF.gr' (h : HF s0 s b q x mp) (g : Gr s t) : HF s0 t b q x mp :=
  ⟨h.gr.trans g, h.hb, h.hm, g.get h.st h.gr.wf, g.get h.mpE h.gr.wf, h.ins.keep fun c hc => g.2.2 c (h.ins.lt h.gr.wf hc), h.ow⟩

theorem stAt_run (d : Nat) (h : HF s0 s b q x mp) (hl : q.l.length ≤ 8000) (id : Int) : ∃ k t, R (d + 3) 73 [Z (.ptr b 0), I .i64 id] s = some (.tup [.s (.int .i64 ((k : Nat) : Int)), .s (.bool (hitI q.l id k))], t) ∧ Gr s t ∧ Found q.l id k := by
  obtain ⟨k, t, e1, g, f⟩ := bsf_run d h.gr.wf h.ins hl id
  refine ⟨k, t, ?_, g, f⟩
  rw [f73_run]
  unfold f73
  have l0 : aLoad1 (Z (.ptr b 0)) s.get = some (Z x) := aLoad1_of h.st rfl
  generalize R (d + 2) = r at *
  generalize ((k : Nat) : Int) = K at *
  simp [l0, e1, aExtract, retT, allV]

set_option maxHeartbeats 1000000 in
theorem stAsks_run (d : Nat) (h : HF s0 s b q x mp) (hq : FOk q) (hl : q.l.length ≤ 8000) (e : Ent) : ∃ t, R (d + 9) 72 [Z (.ptr b 0), AE e] s = some (I .i64 (asksP q e), t) ∧ Gr s t := by
  rw [f72_run]
  unfold f72
  obtain ⟨n, hn⟩ : ∃ n, n = s.size := ⟨_, rfl⟩
  obtain ⟨s1, hs1⟩ : ∃ s1, s1 = s.push (.cells true (cE e)) := ⟨_, rfl⟩
  have nw1 : aNew s (nBox (AE e)) = some (Z (.ptr n 0), s1) := by rw [hs1, hn]; rfl
  have g1 : Gr s s1 := by rw [hs1]; exact Gr.push h.gr.wf _
  have b1 : s1.get n = some (.cells true (cE e)) := by rw [hs1, hn]; exact St.get_push_same _ _
  have l1 : aLoad1 (Z (.ptr n 2)) s1.get = some (I .i64 e.i) := aLoad1_of b1 rfl
  obtain ⟨k, s2, e2, g2, hF⟩ := stAt_run (d + 5) (h.gr' g1) hl e.i
  have b2 : s2.get n = some (.cells true (cE e)) := g2.get b1 g1.wf
  have l2 := load8 (g := s2.get) b2
  obtain ⟨s3, e3, g3⟩ := mayE_run d g2.wf e
  have b3 : s3.get n = some (.cells true (cE e)) := g3.get b2 g2.wf
  have h3 := ((h.gr' g1).gr' g2).gr' g3
  have k3 : aLoad1 (Z (.ptr n 0)) s3.get = some (I .i64 e.k) := aLoad1_of b3 rfl
  have v3 : aLoad1 (Z (.ptr n 1)) s3.get = some (I .i64 e.v) := aLoad1_of b3 rfl
  have i3 : aLoad1 (Z (.ptr n 2)) s3.get = some (I .i64 e.i) := aLoad1_of b3 rfl
  have m3 : aLoad1 (Z (.ptr b 1)) s3.get = some (Z (.map mp)) := aLoad1_of h3.st rfl
  have w3 : aLoad1 (Z (.ptr b 9)) s3.get = some (I .i64 q.w) := aLoad1_of h3.st rfl
  have lk := look_ever h3.mpE e.i
  refine ⟨s3, ?_, (g1.trans g2).trans g3⟩
  simp only [Nat.add_assoc, Nat.reduceAdd] at e2
  unfold asksP
  cases hm : mayE e with
  | false =>
    rw [hm] at e3
    generalize R (d + 8) = r at *
    generalize ((k : Nat) : Int) = K at *
    generalize hitI q.l e.i k = hit at *
    simp [nw1, l1, e2, aExtract, l2, e3]
  | true =>
    rw [hm] at e3
    obtain ⟨v0, v1, k0, k1, q1, q2, q3, q4⟩ := mayE_range hm
    rcases (by omega : e.k = 1 ∨ e.k = 2 ∨ e.k = 3 ∨ e.k = 4) with hk | hk | hk | hk
    · by_cases hi : e.i ∈ q.ever
      · rw [decide_eq_true hi] at lk
        generalize R (d + 8) = r at *
        generalize ((k : Nat) : Int) = K at *
        generalize hitI q.l e.i k = hit at *
        simp [nw1, l1, e2, aExtract, l2, e3, k3, hk, m3, i3, lk, hi]
      · rw [decide_eq_false hi] at lk
        generalize R (d + 8) = r at *
        generalize ((k : Nat) : Int) = K at *
        generalize hitI q.l e.i k = hit at *
        by_cases hv : e.v < q.w
        · simp [nw1, l1, e2, aExtract, l2, e3, k3, hk, m3, i3, lk, hi, v3, w3, hv]
        · simp [nw1, l1, e2, aExtract, l2, e3, k3, hk, m3, i3, lk, hi, v3, w3, hv]
    · obtain ⟨i0, i1, _⟩ := q2 hk
      obtain ⟨_, hh⟩ := found_eq hF hq.up hq.rng i0 i1
      rw [hh] at e2
      generalize R (d + 8) = r at *
      generalize ((k : Nat) : Int) = K at *
      cases ht : thereP q.l e.i with
      | false =>
        rw [ht] at e2
        simp [nw1, l1, e2, aExtract, l2, e3, k3, hk, m3, i3, v3, w3]
      | true =>
        rw [ht] at e2
        by_cases hv : e.v < q.w
        · simp [nw1, l1, e2, aExtract, l2, e3, k3, hk, m3, i3, v3, w3, hv]
        · simp [nw1, l1, e2, aExtract, l2, e3, k3, hk, m3, i3, v3, w3, hv]
    · generalize R (d + 8) = r at *
      generalize ((k : Nat) : Int) = K at *
      generalize hitI q.l e.i k = hit at *
      by_cases hv : e.v < q.w
      · simp [nw1, l1, e2, aExtract, l2, e3, k3, hk, m3, i3, v3, w3, hv]
      · simp [nw1, l1, e2, aExtract, l2, e3, k3, hk, m3, i3, v3, w3, hv]
    · generalize R (d + 8) = r at *
      generalize ((k : Nat) : Int) = K at *
      generalize hitI q.l e.i k = hit at *
      by_cases hv : e.v < q.w
      · simp [nw1, l1, e2, aExtract, l2, e3, k3, hk, m3, i3, v3, w3, hv]
      · simp [nw1, l1, e2, aExtract, l2, e3, k3, hk, m3, i3, v3, w3, hv]
end
end Go.Proofs.YtlhbidbdmdcdeaaGreatDoor

/-
  The state that takes an entry. No conditions but those named in each line.
-/
namespace Go.Proofs.YtlhbidbdmdcdeaaGreatDoor
open Go Go.Abs Go.Abs.F
set_option linter.unusedVariables false
section
variable {s0 s t : St} {b mp : Nat} {q : FoS} {x y : S} {e : Ent}

/-- A cell of the state is written. -/
theorem stSet {σ : St} {q' : FoS} {o : Nat} {x' z : S} (h : σ.get b = some (.cells true (cF x mp q))) (ho : o < 10) (hz : setRange (cF x mp q) o [z] = cF x' mp q') : aStore 1 (Z (.ptr b o)) (Z z) σ = some (tt, σ.set b (.cells true (cF x' mp q'))) := by
  rw [aStore1_of h (by simpa [cF] using ho), hz]

set_option maxHeartbeats 2000000 in
theorem next_run' (d : Nat) (h : HF s0 s b q x mp) (hq : FOk q) (hl : q.ever.length ≤ 8000) (e : Ent) : ∃ t y, R (d + 10) 47 [Z (.ptr b 0), AE e] s = some (I .i64 (asksP q e), t) ∧ HF s0 t b (if asksP q e = 0 then nextP q e else q) y mp := by
  rw [f47_run]
  unfold f47
  have hll : q.l.length ≤ 8000 := Nat.le_trans hq.len hl
  obtain ⟨n, hn⟩ : ∃ n, n = s.size := ⟨_, rfl⟩
  obtain ⟨s1, hs1⟩ : ∃ s1, s1 = s.push (.cells true (cE e)) := ⟨_, rfl⟩
  have nw1 : aNew s (nBox (AE e)) = some (Z (.ptr n 0), s1) := by rw [hs1, hn]; rfl
  have g1 : Gr s s1 := by rw [hs1]; exact Gr.push h.gr.wf _
  have b1 : s1.get n = some (.cells true (cE e)) := by rw [hs1, hn]; exact St.get_push_same _ _
  have l1 := load8 (g := s1.get) b1
  have h1 := h.gr' g1
  obtain ⟨s2, e2, g2⟩ := stAsks_run d h1 hq hll e
  have h2 := h1.gr' g2
  have b2 : s2.get n = some (.cells true (cE e)) := g2.get b1 g1.wf
  by_cases ha : asksP q e = 0
  · rw [if_pos ha]
    rw [ha] at e2 ⊢
    have i2 : aLoad1 (Z (.ptr n 2)) s2.get = some (I .i64 e.i) := aLoad1_of b2 rfl
    obtain ⟨k, s3, e3, g3, hF⟩ := stAt_run (d + 6) h2 hll e.i
    have h3 := h2.gr' g3
    have b3 : s3.get n = some (.cells true (cE e)) := g3.get b2 g2.wf
    have hns3 := g3.wf.lt b3
    have k3 : aLoad1 (Z (.ptr n 0)) s3.get = some (I .i64 e.k) := aLoad1_of b3 rfl
    have hm : mayE e = true := by
      unfold asksP at ha
      by_cases hm : mayE e = true
      · exact hm
      · rw [if_neg hm] at ha; cases ha
    obtain ⟨v0, v1, k0, k1, q1, q2, q3, q4⟩ := mayE_range hm
    have hbs := h.gr.wf.lt h.st
    have hms := h.gr.wf.lt h.mpE
    have hbn : b ≠ n := by omega
    have hmn : mp ≠ n := by omega
    have hxn : ∀ c, own x = some c → c < n := fun c hc => by rw [hn]; exact h.ins.lt h.gr.wf hc
    have hbm := h.bm
    simp only [Nat.add_assoc, Nat.reduceAdd] at e3
    -- the last step: the view is kept
    have fin : ∀ (σ : St) (y : S) (q' : FoS), HF s0 σ b q' y mp → σ.get n = some (.cells true (cE e)) → ∃ τ, aStore 1 (Z (.ptr b 9)) (I .i64 e.v) σ = some (tt, τ) ∧ aLoad1 (Z (.ptr n 1)) σ.get = some (I .i64 e.v) ∧ HF s0 τ b ⟨q'.l, q'.ever, q'.rule, q'.v, e.v⟩ y mp := fun σ y q' H hb => by
      refine ⟨_, stSet (q' := ⟨q'.l, q'.ever, q'.rule, q'.v, e.v⟩) (x' := y) H.st (by omega) rfl, aLoad1_of hb rfl, ?_⟩
      have hbσ := H.gr.wf.lt H.st
      exact ⟨⟨St.wf_set H.gr.wf hbσ _, by simpa using H.gr.2.1, fun c hc => by rw [St.get_set_ne _ _ (by have := H.hb; omega)]; exact H.gr.2.2 c hc⟩, H.hb, H.hm, St.get_set_same _ _ _, by rw [St.get_set_ne _ _ (Ne.symm H.bm)]; exact H.mpE,
        H.ins.keep fun c hc => St.get_set_ne _ _ (H.ow c hc).2.1, H.ow⟩
    unfold nextP
    rcases (by omega : e.k = 1 ∨ e.k = 2 ∨ e.k = 3 ∨ e.k = 4) with hk | hk | hk | hk
    · -- a segment comes
      rw [if_pos hk]
      obtain ⟨hx0, i0, i1, _⟩ := q1 hk
      have hni : e.i ∉ q.ever := by
        unfold asksP at ha
        rw [if_pos hm] at ha
        intro hin
        rw [if_pos ⟨hk, hin⟩] at ha
        cases ha
      obtain ⟨hkk, _⟩ := found_eq hF hq.up hq.rng i0 i1
      subst hkk
      have m3 : aLoad1 (Z (.ptr b 1)) s3.get = some (Z (.map mp)) := aLoad1_of h3.st rfl
      have i3 : aLoad1 (Z (.ptr n 2)) s3.get = some (I .i64 e.i) := aLoad1_of b3 rfl
      have ms := mset_ever h3.mpE hni
      obtain ⟨s4, hs4⟩ : ∃ s4, s4 = s3.set mp (.map (mapE (q.ever ++ [e.i]))) := ⟨_, rfl⟩
      rw [← hs4] at ms
      have hms3 := g3.wf.lt h3.mpE
      have o4 : ∀ c, c ≠ mp → s4.get c = s3.get c := fun c hc => by rw [hs4]; exact St.get_set_ne _ _ hc
      have wf4 : s4.wf := by rw [hs4]; exact St.wf_set g3.wf hms3 _
      have z4 : s4.size = s3.size := by rw [hs4]; simp
      have b4 : s4.get n = some (.cells true (cE e)) := by rw [o4 n (Ne.symm hmn)]; exact b3
      have st4 : s4.get b = some (.cells true (cF x mp q)) := by rw [o4 b hbm]; exact h3.st
      have x4 : aLoad1 (Z (.ptr b 0)) s4.get = some (Z x) := aLoad1_of st4 rfl
      have f2 : aLoad1 (Z (.ptr n 2)) s4.get = some (I .i64 e.i) := aLoad1_of b4 rfl
      have f3 : aLoad1 (Z (.ptr n 3)) s4.get = some (I .i64 e.t) := aLoad1_of b4 rfl
      have f4 : aLoad1 (Z (.ptr n 4)) s4.get = some (I .i64 e.f) := aLoad1_of b4 rfl
      have f5 : aLoad1 (Z (.ptr n 5)) s4.get = some (I .i64 e.o) := aLoad1_of b4 rfl
      have f6 : aLoad1 (Z (.ptr n 6)) s4.get = some (I .u32 e.u) := aLoad1_of b4 rfl
      have ag : asAggT (aFill [.int .i64 0, .int .i64 0, .int .i64 0, .int .i64 0, .int .u32 0] [(0, 1, I .i64 e.i), (1, 1, I .i64 e.t), (2, 1, I .i64 e.f), (3, 1, I .i64 e.o), (4, 1, I .u32 e.u)]) = some (AI (infE e)) := rfl
      obtain ⟨s5, hs5⟩ : ∃ s5, s5 = s4.push (.cells true (cI (infE e))) := ⟨_, rfl⟩
      have nw5 : aNew s4 (nSlice 1 (aFill [.int .i64 0, .int .i64 0, .int .i64 0, .int .i64 0, .int .u32 0] [(0, 5, AI (infE e))])) = some (Z (.sl s4.size 0 1 (.known 1)), s5) := by rw [hs5]; rfl
      have g5 : Gr s4 s5 := by rw [hs5]; exact Gr.push wf4 _
      have j5 : s5.get s4.size = some (.cells true (cI (infE e))) := by rw [hs5]; exact St.get_push_same _ _
      have ins4 : InS s4 x q.l := h3.ins.keep fun c hc => o4 c (h.ow c hc).2.2
      have ins5 : InS s5 x q.l := ins4.keep fun c hc => g5.2.2 c (ins4.lt wf4 hc)
      obtain ⟨y, s6, e6, N6⟩ := ins_run (d + 8) g5.wf ins5 hll (kOf_le q.l e.i) j5 (fun c hc => by have := ins4.lt wf4 hc; omega)
      have z5 : s4.size < s5.size := by rw [hs5]; simp
      have xb : own x ≠ some b := fun hc => (h.ow b hc).2.1 rfl
      have xm : own x ≠ some mp := fun hc => (h.ow mp hc).2.2 rfl
      have xn : own x ≠ some n := fun hc => by have := hxn n hc; omega
      have st6 : s6.get b = some (.cells true (cF x mp q)) := by rw [N6.old b (by omega) xb, g5.2.2 b (by omega)]; exact st4
      have mp6 : s6.get mp = some (.map (mapE (q.ever ++ [e.i]))) := by rw [N6.old mp (by omega) xm, g5.2.2 mp (by omega), hs4]; exact St.get_set_same _ _ _
      have b6 : s6.get n = some (.cells true (cE e)) := by rw [N6.old n (by omega) xn, g5.2.2 n (by omega)]; exact b4
      obtain ⟨Q, hQ⟩ : ∃ Q : FoS, Q = ⟨insL q.l (infE e), q.ever ++ [e.i], q.rule, q.v, q.w⟩ := ⟨_, rfl⟩
      have sS := stSet (q' := Q) (x' := y) (z := y) st6 (show 0 < 10 by omega) (by rw [hQ]; rfl)
      obtain ⟨s7, hs7⟩ : ∃ s7, s7 = s6.set b (.cells true (cF y mp Q)) := ⟨_, rfl⟩
      rw [← hs7] at sS
      have yo : ∀ c, own y = some c → s0.size ≤ c ∧ c ≠ b ∧ c ≠ mp := fun c hc => by
        rcases N6.new c hc with hx | hx
        · exact h.ow c hx
        · have := h.hb; have := h.hm; have := h.gr.2.1
          exact ⟨by omega, by omega, by omega⟩
      have H7 : HF s0 s7 b Q y mp := by
        have hb6 := N6.wf.lt st6
        refine ⟨⟨by rw [hs7]; exact St.wf_set N6.wf hb6 _, ?_, fun c hc => ?_⟩, h.hb, h.hm, by rw [hs7]; exact St.get_set_same _ _ _, ?_, ?_, yo⟩
        · rw [hs7]
          have := h.gr.2.1; have := g1.2.1; have := g2.2.1; have := g3.2.1; have := N6.le
          simp only [St.size_set]; omega
        · have h01 := h.gr.2.1
          rw [hs7, St.get_set_ne _ _ (by have := h.hb; omega), N6.old c (by omega) (fun hc' => by have := (h.ow c hc').1; omega), g5.2.2 c (by omega), o4 c (by have := h.hm; omega)]
          exact h3.gr.2.2 c hc
        · rw [hs7, St.get_set_ne _ _ (Ne.symm hbm), mp6, hQ]
        · rw [hQ]
          exact N6.ins.keep fun c hc => by rw [hs7]; exact St.get_set_ne _ _ (yo c hc).2.1
      have b7 : s7.get n = some (.cells true (cE e)) := by rw [hs7, St.get_set_ne _ _ (Ne.symm hbn)]; exact b6
      obtain ⟨s8, st8, ld8, H8⟩ := fin s7 y Q H7 b7
      rw [hQ] at H8
      refine ⟨s8, y, ?_, H8⟩
      clear fin
      simp only [Nat.add_assoc, Nat.reduceAdd] at e6
      generalize R (d + 9) = r at *
      generalize ((kOf q.l e.i : Nat) : Int) = K at *
      generalize hitI q.l e.i (kOf q.l e.i) = hit at *
      simp [nw1, l1, e2, i2, e3, aExtract, k3, hk, m3, i3, ms, x4, f2, f3, f4, f5, f6, ag, nw5, e6, sS, ld8, st8, gtt]
    · -- a segment goes
      rw [if_neg (by omega), if_pos hk]
      obtain ⟨i0, i1, _⟩ := q2 hk
      obtain ⟨hkk, hhit⟩ := found_eq hF hq.up hq.rng i0 i1
      have hth : thereP q.l e.i = true := by
        unfold asksP at ha
        rw [if_pos hm, if_neg (by omega)] at ha
        cases ht : thereP q.l e.i with
        | true => rfl
        | false => rw [if_pos ⟨hk, ht⟩] at ha; cases ha
      subst hkk
      have hkl := kOf_lt hq.up hth
      have x3 : aLoad1 (Z (.ptr b 0)) s3.get = some (Z x) := aLoad1_of h3.st rfl
      have w1 : IntKind.i64.wrap (((kOf q.l e.i : Nat) : Int) + 1) = ((kOf q.l e.i + 1 : Nat) : Int) := by rw [wrap_in _ (by omega) (by omega)]; omega
      obtain ⟨y, s6, e6, N6⟩ := del_run (d + 8) g3.wf h3.ins hll hkl
      have xb : own x ≠ some b := fun hc => (h.ow b hc).2.1 rfl
      have xm : own x ≠ some mp := fun hc => (h.ow mp hc).2.2 rfl
      have xn : own x ≠ some n := fun hc => by have := hxn n hc; omega
      have hb3 := g3.wf.lt h3.st
      have hm3 := g3.wf.lt h3.mpE
      have st6 : s6.get b = some (.cells true (cF x mp q)) := by rw [N6.old b hb3 xb]; exact h3.st
      have mp6 : s6.get mp = some (.map (mapE q.ever)) := by rw [N6.old mp hm3 xm]; exact h3.mpE
      have b6 : s6.get n = some (.cells true (cE e)) := by rw [N6.old n hns3 xn]; exact b3
      obtain ⟨Q, hQ⟩ : ∃ Q : FoS, Q = ⟨delL q.l e.i, q.ever, q.rule, q.v, q.w⟩ := ⟨_, rfl⟩
      have sS := stSet (q' := Q) (x' := y) (z := y) st6 (show 0 < 10 by omega) (by rw [hQ]; rfl)
      obtain ⟨s7, hs7⟩ : ∃ s7, s7 = s6.set b (.cells true (cF y mp Q)) := ⟨_, rfl⟩
      rw [← hs7] at sS
      have yo : ∀ c, own y = some c → s0.size ≤ c ∧ c ≠ b ∧ c ≠ mp := fun c hc => by
        rcases N6.new c hc with hx | hx
        · exact h.ow c hx
        · have := h.hb; have := h.hm; have := h3.gr.2.1
          exact ⟨by omega, by omega, by omega⟩
      have H7 : HF s0 s7 b Q y mp := by
        have hb6 := N6.wf.lt st6
        refine ⟨⟨by rw [hs7]; exact St.wf_set N6.wf hb6 _, ?_, fun c hc => ?_⟩, h.hb, h.hm, by rw [hs7]; exact St.get_set_same _ _ _, ?_, ?_, yo⟩
        · rw [hs7]
          have := h3.gr.2.1; have := N6.le
          simp only [St.size_set]; omega
        · have h03 := h3.gr.2.1
          rw [hs7, St.get_set_ne _ _ (by have := h.hb; omega), N6.old c (by omega) (fun hc' => by have := (h.ow c hc').1; omega)]
          exact h3.gr.2.2 c hc
        · rw [hs7, St.get_set_ne _ _ (Ne.symm hbm), mp6, hQ]
        · rw [hQ]
          exact N6.ins.keep fun c hc => by rw [hs7]; exact St.get_set_ne _ _ (yo c hc).2.1
      have b7 : s7.get n = some (.cells true (cE e)) := by rw [hs7, St.get_set_ne _ _ (Ne.symm hbn)]; exact b6
      obtain ⟨s8, st8, ld8, H8⟩ := fin s7 y Q H7 b7
      rw [hQ] at H8
      refine ⟨s8, y, ?_, H8⟩
      clear fin
      simp only [Nat.add_assoc, Nat.reduceAdd] at e6
      generalize R (d + 9) = r at *
      generalize ((kOf q.l e.i + 1 : Nat) : Int) = K1 at *
      generalize ((kOf q.l e.i : Nat) : Int) = K at *
      generalize hitI q.l e.i (kOf q.l e.i) = hit at *
      simp [nw1, l1, e2, i2, e3, aExtract, k3, hk, x3, w1, e6, sS, ld8, st8, gtt]
    · -- a view
      rw [if_neg (by omega), if_neg (by omega), if_pos hk]
      have v3 : aLoad1 (Z (.ptr n 1)) s3.get = some (I .i64 e.v) := aLoad1_of b3 rfl
      obtain ⟨Q, hQ⟩ : ∃ Q : FoS, Q = ⟨q.l, q.ever, q.rule, e.v, q.w⟩ := ⟨_, rfl⟩
      have sS := stSet (q' := Q) (x' := x) (z := .int .i64 e.v) h3.st (show 8 < 10 by omega) (by rw [hQ]; rfl)
      obtain ⟨s7, hs7⟩ : ∃ s7, s7 = s3.set b (.cells true (cF x mp Q)) := ⟨_, rfl⟩
      rw [← hs7] at sS
      have H7 : HF s0 s7 b Q x mp := by
        have hb3 := g3.wf.lt h3.st
        refine ⟨⟨by rw [hs7]; exact St.wf_set g3.wf hb3 _, by rw [hs7]; simpa using h3.gr.2.1, fun c hc => by rw [hs7, St.get_set_ne _ _ (by have := h.hb; omega)]; exact h3.gr.2.2 c hc⟩, h.hb, h.hm, by rw [hs7]; exact St.get_set_same _ _ _, ?_, ?_, h.ow⟩
        · rw [hs7, St.get_set_ne _ _ (Ne.symm hbm), h3.mpE, hQ]
        · rw [hQ]
          exact h3.ins.keep fun c hc => by rw [hs7]; exact St.get_set_ne _ _ (h.ow c hc).2.1
      have b7 : s7.get n = some (.cells true (cE e)) := by rw [hs7, St.get_set_ne _ _ (Ne.symm hbn)]; exact b3
      obtain ⟨s8, st8, ld8, H8⟩ := fin s7 x Q H7 b7
      rw [hQ] at H8
      refine ⟨s8, x, ?_, H8⟩
      clear fin
      generalize R (d + 9) = r at *
      generalize ((k : Nat) : Int) = K at *
      generalize hitI q.l e.i k = hit at *
      simp [nw1, l1, e2, i2, e3, aExtract, k3, hk, v3, sS, ld8, st8, gtt]
    · -- a rule
      rw [if_neg (by omega), if_neg (by omega), if_neg (by omega)]
      have x3 : aLoad1 (Z (.ptr n 7)) s3.get = some (Z (.str e.x)) := aLoad1_of b3 rfl
      have hxl := mayE_x hm
      obtain ⟨s4, e4, g4⟩ := parse_run (d + 2) g3.wf (l := e.x) (by omega)
      have h4 := h3.gr' g4
      have b4 : s4.get n = some (.cells true (cE e)) := g4.get b3 g3.wf
      obtain ⟨Q, hQ⟩ : ∃ Q : FoS, Q = ⟨q.l, q.ever, (parseP e.x).1, q.v, q.w⟩ := ⟨_, rfl⟩
      obtain ⟨p, hp⟩ : ∃ p, p = (parseP e.x).1 := ⟨_, rfl⟩
      rw [← hp] at e4 hQ
      have sS : aStore 6 (Z (.ptr b 2)) (AP p) s4 = some (tt, s4.set b (.cells true (cF x mp Q))) := by
        simp only [aStore, h4.st]
        rw [if_pos ⟨rfl, by simp [cF]⟩, hQ]
        rfl
      obtain ⟨s7, hs7⟩ : ∃ s7, s7 = s4.set b (.cells true (cF x mp Q)) := ⟨_, rfl⟩
      rw [← hs7] at sS
      have H7 : HF s0 s7 b Q x mp := by
        have hb3 := g4.wf.lt h4.st
        refine ⟨⟨by rw [hs7]; exact St.wf_set g4.wf hb3 _, by rw [hs7]; simpa using h4.gr.2.1, fun c hc => by rw [hs7, St.get_set_ne _ _ (by have := h.hb; omega)]; exact h4.gr.2.2 c hc⟩, h.hb, h.hm, by rw [hs7]; exact St.get_set_same _ _ _, ?_, ?_, h.ow⟩
        · rw [hs7, St.get_set_ne _ _ (Ne.symm hbm), h4.mpE, hQ]
        · rw [hQ]
          exact h4.ins.keep fun c hc => by rw [hs7]; exact St.get_set_ne _ _ (h.ow c hc).2.1
      have b7 : s7.get n = some (.cells true (cE e)) := by rw [hs7, St.get_set_ne _ _ (Ne.symm hbn)]; exact b4
      obtain ⟨s8, st8, ld8, H8⟩ := fin s7 x Q H7 b7
      rw [hQ, hp] at H8
      refine ⟨s8, x, ?_, H8⟩
      clear fin
      simp only [Nat.add_assoc, Nat.reduceAdd] at e4
      generalize R (d + 9) = r at *
      generalize ((k : Nat) : Int) = K at *
      generalize hitI q.l e.i k = hit at *
      simp [nw1, l1, e2, i2, e3, aExtract, k3, hk, x3, e4, sS, ld8, st8, gtt]
  · rw [if_neg ha]
    refine ⟨s2, x, ?_, h2⟩
    generalize R (d + 9) = r at *
    simp [nw1, l1, e2, ha]
end
end Go.Proofs.YtlhbidbdmdcdeaaGreatDoor

/-
  What entry.Get computes, in any store. No conditions but those named in each line.
-/
namespace Go.Proofs.YtlhbidbdmdcdeaaGreatDoor
open Go Go.Abs Go.Abs.F
set_option linter.unusedVariables false

def nxt (bs : Bs) (most at_ : Nat) (bad : Bool) : Nat × Nat × Bool := match vget bs at_ with
  | some (n, e) => (min n most, e, bad || decide (most < n))
  | none => (0, at_, true)

def getFields (bs : Bs) (c : UInt8) : Option (Ent × Bool) :=
  let p := nxt bs 1073741824 1 false
  let e0 : Ent := { ent0 with k := c.toNat, v := (p.1 : Nat) }
  if c.toNat = 1 then
    let i := nxt bs 1073741824 p.2.1 p.2.2
    let t := nxt bs 4 i.2.1 i.2.2
    let f := nxt bs 1099511627776 t.2.1 t.2.2
    let o := nxt bs 1099511627776 f.2.1 f.2.2
    let u := nxt bs 4294967295 o.2.1 o.2.2
    some ({ e0 with i := (i.1 : Nat), t := (t.1 : Nat), f := (f.1 : Nat), o := (o.1 : Nat), u := (u.1 : Nat) }, u.2.2)
  else if c.toNat = 2 then
    let i := nxt bs 1073741824 p.2.1 p.2.2
    some ({ e0 with i := (i.1 : Nat) }, i.2.2)
  else if c.toNat = 4 then
    let m := nxt bs 300 p.2.1 p.2.2
    if m.2.2 = true ∨ bs.length < m.2.1 + m.1 then none else some ({ e0 with x := (bs.drop m.2.1).take m.1 }, m.2.2)
  else some (e0, p.2.2)

def getE (bs : Bs) : Option Ent := match bs with
  | [] => none
  | c :: _ => match getFields bs c with
    | none => none
    | some (e, bad) => if bad = false ∧ putE e = some bs then some e else none

section
variable {s t : St} {x y : S} {bs cs : Bs} {i : Nat}

theorem nxt_le {bs : Bs} {most at_ : Nat} {bad : Bool} : (nxt bs most at_ bad).1 ≤ most := by
  unfold nxt
  split
  · exact Nat.min_le_right _ _
  · exact Nat.zero_le _
theorem nxt_at {bs : Bs} {most at_ : Nat} {bad : Bool} (h : at_ ≤ bs.length) : (nxt bs most at_ bad).2.1 ≤ bs.length := by
  unfold nxt
  split
  · rename_i n e he
    exact (vget_lt he).2
  · exact h

theorem beq_run (d : Nat) (h : RB s x bs) (k : RB s y cs) : R (d + 1) 55 [Z x, Z y] s = some (B (decide (bs = cs)), s) := by
  rw [f55_run]
  unfold f55
  simp [h.str, k.str]

/-- While the numbers are read. -/
structure Cur (s0 s : St) (x : S) (bs : Bs) (at_ : Nat) (bad : Bool) : Prop where
  gr : Gr s0 s
  ge : s0.size + 4 ≤ s.size
  c1 : s.get s0.size = some (.cells true [x])
  c2 : s.get (s0.size + 1) = some (.cells true (cE ent0))
  c4 : s.get (s0.size + 2) = some (.cells true [.int .i64 (at_ : Nat)])
  c5 : s.get (s0.size + 3) = some (.cells true [.bool bad])
  le : at_ ≤ bs.length

theorem Cur.set {s0 : St} {at_ : Nat} {bad : Bool} (h : Cur s0 s x bs at_ bad) {b : Nat} (hb : s0.size + 4 ≤ b) (hb2 : b < s.size) (v : Blk) : Cur s0 (s.set b v) x bs at_ bad :=
  ⟨⟨St.wf_set h.gr.wf hb2 _, by simpa using h.gr.2.1, fun c hc => by rw [St.get_set_ne _ _ (by omega)]; exact h.gr.2.2 c hc⟩, by simpa using h.ge, by rw [St.get_set_ne _ _ (by omega)]; exact h.c1, by rw [St.get_set_ne _ _ (by omega)]; exact h.c2,
    by rw [St.get_set_ne _ _ (by omega)]; exact h.c4, by rw [St.get_set_ne _ _ (by omega)]; exact h.c5, h.le⟩

theorem Cur.gr' {s0 : St} {at_ : Nat} {bad : Bool} (h : Cur s0 s x bs at_ bad) (g : Gr s t) : Cur s0 t x bs at_ bad := by
  have := h.ge
  exact ⟨h.gr.trans g, Nat.le_trans h.ge g.2.1, by rw [g.2.2 _ (by omega)]; exact h.c1, by rw [g.2.2 _ (by omega)]; exact h.c2, by rw [g.2.2 _ (by omega)]; exact h.c4, by rw [g.2.2 _ (by omega)]; exact h.c5, h.le⟩

theorem next_run (d : Nat) {s0 : St} {at_ : Nat} {bad : Bool} (h : Cur s0 s x bs at_ bad) (hx : RB s0 x bs) (hox : ∀ c, own x = some c → c < s0.size) (hl : bs.length ≤ 8000) (most : Nat) (hm : most < 2 ^ 63) :
    ∃ t, R (d + 2) 53 [I .u64 (most : Nat), Z (.ptr s0.size 0), Z (.ptr (s0.size + 2) 0), Z (.ptr (s0.size + 3) 0)] s = some (I .i64 ((nxt bs most at_ bad).1 : Nat), t) ∧ Cur s0 t x bs (nxt bs most at_ bad).2.1 (nxt bs most at_ bad).2.2 ∧ t.size = s.size ∧
      ∀ b, b ≠ s0.size + 2 → b ≠ s0.size + 3 → t.get b = s.get b := by
  rw [f53_run]
  unfold f53
  have hge := h.ge
  have hle := h.le
  have rx : RB s x bs := hx.gr hox h.gr
  have l1 : aLoad1 (Z (.ptr s0.size 0)) s.get = some (Z x) := aLoad1_of h.c1 rfl
  have l4 : aLoad1 (Z (.ptr (s0.size + 2) 0)) s.get = some (I .i64 (at_ : Nat)) := aLoad1_of h.c4 rfl
  have l5 : aLoad1 (Z (.ptr (s0.size + 3) 0)) s.get = some (B bad) := aLoad1_of h.c5 rfl
  have e1 := vget_run d rx (by omega) (at_ := at_) (by omega)
  obtain ⟨N, hN⟩ : ∃ N, N = nxt bs most at_ bad := ⟨_, rfl⟩
  rw [← hN]
  obtain ⟨t1, ht1⟩ : ∃ t1, t1 = s.set (s0.size + 3) (.cells true [.bool N.2.2]) := ⟨_, rfl⟩
  have st1 : aStore 1 (Z (.ptr (s0.size + 3) 0)) (B N.2.2) s = some (tt, t1) := by rw [ht1]; exact aStore1_of h.c5 (by simp)
  have c4' : t1.get (s0.size + 2) = some (.cells true [.int .i64 (at_ : Nat)]) := by rw [ht1, St.get_set_ne _ _ (by omega)]; exact h.c4
  obtain ⟨t2, ht2⟩ : ∃ t2, t2 = t1.set (s0.size + 2) (.cells true [.int .i64 (N.2.1 : Nat)]) := ⟨_, rfl⟩
  have st2 : aStore 1 (Z (.ptr (s0.size + 2) 0)) (I .i64 (N.2.1 : Nat)) t1 = some (tt, t2) := by rw [ht2]; exact aStore1_of c4' (by simp)
  have z1 : t1.size = s.size := by rw [ht1]; rfl
  have z2 : t2.size = s.size := by rw [ht2]; exact z1
  have w1 : t1.wf := by rw [ht1]; exact St.wf_set h.gr.wf (by omega) _
  have w2 : t2.wf := by rw [ht2]; exact St.wf_set w1 (by omega) _
  have keep : ∀ b, b ≠ s0.size + 2 → b ≠ s0.size + 3 → t2.get b = s.get b := fun b h1 h2 => by rw [ht2, St.get_set_ne _ _ h1, ht1, St.get_set_ne _ _ h2]
  have hN1 : N.2.1 ≤ bs.length := by rw [hN]; exact nxt_at hle
  have cur : Cur s0 t2 x bs N.2.1 N.2.2 := ⟨⟨w2, by rw [z2]; exact h.gr.2.1, fun b hb => by rw [keep b (by omega) (by omega)]; exact h.gr.2.2 b hb⟩, by omega, by rw [keep _ (by omega) (by omega)]; exact h.c1, by rw [keep _ (by omega) (by omega)]; exact h.c2,
    by rw [ht2]; exact St.get_set_same _ _ _, by rw [ht2, St.get_set_ne _ _ (by omega), ht1]; exact St.get_set_same _ _ _, hN1⟩
  refine ⟨t2, ?_, cur, z2, keep⟩
  cases hv : vget bs at_ with
  | none =>
    have hn : N = (0, at_, true) := by rw [hN]; unfold nxt; rw [hv]
    rw [hv] at e1
    simp only [vres, if_pos hle] at e1
    rw [hn] at st1 st2 ⊢
    have hmin : min (0 : Int) ((most : Nat) : Int) = 0 := by omega
    have w0 : IntKind.i64.wrap 0 = 0 := rfl
    cases bad with
    | true => simp [l1, l4, e1, aExtract, l5, gtt, st1, st2, hmin, w0]
    | false => simp [l1, l4, e1, aExtract, l5, gtt, st1, st2, hmin, w0]
  | some p =>
    obtain ⟨n, e⟩ := p
    have hn : N = (min n most, e, bad || decide (most < n)) := by rw [hN]; unfold nxt; rw [hv]
    rw [hv] at e1
    simp only [vres] at e1
    rw [hn] at st1 st2 ⊢
    have hmin : min ((n : Nat) : Int) ((most : Nat) : Int) = ((min n most : Nat) : Int) := by omega
    have wm : IntKind.i64.wrap ((min n most : Nat) : Int) = ((min n most : Nat) : Int) := wrap_in _ (by omega) (by omega)
    have cm : decide (((most : Nat) : Int) < ((n : Nat) : Int)) = decide (most < n) := decide_eq_decide.2 (by omega)
    generalize ((min n most : Nat) : Int) = M at *
    generalize ((n : Nat) : Int) = NN at *
    generalize ((most : Nat) : Int) = MM at *
    generalize decide (most < n) = dd at *
    cases bad with
    | true => simp [l1, l4, e1, aExtract, l5, gtt, st2, hmin, wm] at st1 ⊢; simp [st1, st2]
    | false => simp [l1, l4, e1, aExtract, l5, gtt, st2, hmin, wm, cm] at st1 ⊢; simp [st1, st2]

/-- What Get does last. -/
noncomputable def getTail (callf : CallF) (v42 : List T) (s43 : St) : Option (T × St) :=
  bd (aLoadN 8 (v42.getD 3 .any) s43.get) fun t71 =>
  bd2 (callf 31 [t71] s43) fun t72 s46 =>
  bd (aExtract t72 0) fun t73 =>
  bd (aExtract t72 1) fun t74 =>
  bd (aLoad1 (v42.getD 2 .any) s46.get) fun t75 =>
  bd (gT (gd t75 false) (some t74)) fun t77 =>
  bd (gT (gd t75 false) (aBin .neq t77 (I .i64 0))) fun t78 =>
  bd (aPick t75 (B true) t78) fun t79 =>
  bd (gT (gd t79 false) (some t73)) fun t81 =>
  bd (gT (gd t79 false) (aLoad1 (v42.getD 0 .any) s46.get)) fun t82 =>
  bd2 (gS (gd t79 false) s46 (callf 55 [t81, t82] s46)) fun t83 s47 =>
  bd (gT (gd t79 false) (aUn .not t83)) fun t84 =>
  bd (aPick t79 (B true) t84) fun t85 =>
  br t85 (bd (asAggT (aFill [.int .i64 0, .int .i64 0, .int .i64 0, .int .i64 0, .int .i64 0, .int .i64 0, .int .u32 0, .str []] [])) fun t86 =>
  bd2 (aStore 8 (v42.getD 1 .any) t86 s47) fun _ s48 =>
  bd (rC (aLoadN 8 (v42.getD 1 .any) s48.get) (rT (I .i64 2) (some []))) fun l49 => bd (retT l49) fun r50 =>
  some (r50, s48))
  (bd (aLoadN 8 (v42.getD 3 .any) s47.get) fun t87 =>
  bd2 (aStore 8 (v42.getD 1 .any) t87 s47) fun _ s51 =>
  bd (rC (aLoadN 8 (v42.getD 1 .any) s51.get) (rT (I .i64 0) (some []))) fun l52 => bd (retT l52) fun r53 =>
  some (r53, s51))

abbrev resE (o : Option Ent) : T := match o with
  | some e => .tup [.agg (cE e), .s (.int .i64 0)]
  | none => .tup [.agg (cE ent0), .s (.int .i64 2)]

theorem tail_run (d : Nat) {s0 : St} {at_ : Nat} {bad : Bool} {e : Ent} (h : Cur s0 s x bs at_ bad) (hx : RB s0 x bs) (hox : ∀ c, own x = some c → c < s0.size) (hz : s.size = s0.size + 5) (he : s.get (s0.size + 4) = some (.cells true (cE e))) (hw : EWf e) :
    ∃ τ, getTail (R (d + 9)) [Z (.ptr s0.size 0), Z (.ptr (s0.size + 1) 0), Z (.ptr (s0.size + 3) 0), Z (.ptr (s0.size + 4) 0)] s = some (resE (if bad = false ∧ putE e = some bs then some e else none), τ) ∧ Gr s0 τ := by
  have l8 := load8 (g := s.get) he
  unfold getTail
  -- whatever Put says
  have fin : ∀ u, Gr s u → aLoad1 (Z (.ptr (s0.size + 3) 0)) u.get = some (B bad) ∧ aLoad1 (Z (.ptr s0.size 0)) u.get = some (Z x) ∧ RB u x bs ∧ aLoadN 8 (Z (.ptr (s0.size + 4) 0)) u.get = some (AE e) ∧
      (∀ e', aStore 8 (Z (.ptr (s0.size + 1) 0)) (AE e') u = some (tt, u.set (s0.size + 1) (.cells true (cE e'))) ∧ aLoadN 8 (Z (.ptr (s0.size + 1) 0)) (u.set (s0.size + 1) (.cells true (cE e'))).get = some (AE e') ∧ Gr s0 (u.set (s0.size + 1) (.cells true (cE e')))) := fun u g => by
    have h' := h.gr' g
    have he' : u.get (s0.size + 4) = some (.cells true (cE e)) := by rw [g.2.2 _ (by omega)]; exact he
    refine ⟨aLoad1_of h'.c5 rfl, aLoad1_of h'.c1 rfl, hx.gr hox h'.gr, load8 he', fun e' => ⟨store8 h'.c2 rfl, load8 (St.get_set_same _ _ _), ⟨St.wf_set h'.gr.wf (by have := h'.ge; omega) _, by simpa using h'.gr.2.1, fun b hb => by rw [St.get_set_ne _ _ (by omega)]; exact h'.gr.2.2 b hb⟩⟩⟩
  cases hm : mayE e with
  | false =>
    obtain ⟨u, eu, gu⟩ := put_bad d h.gr.wf hm
    obtain ⟨f1, f2, f3, f4, f5⟩ := fin u gu
    obtain ⟨q1, q2, q3⟩ := f5 ent0
    have hp : ¬ (bad = false ∧ putE e = some bs) := fun hh => by simp [putE, hm] at hh
    rw [if_neg hp]
    refine ⟨_, ?_, q3⟩
    generalize u.set (s0.size + 1) (.cells true (cE ent0)) = u2 at *
    generalize R (d + 9) = r at *
    cases bad with
    | true => simp [l8, eu, aExtract, f1, gtt, agg8, q1, q2, rC, rT, retT, allV]
    | false => simp [l8, eu, aExtract, f1, gtt, agg8, q1, q2, rC, rT, retT, allV]
  | true =>
    obtain ⟨y, u, eu, fu⟩ := put_run d h.gr.wf hm hw
    obtain ⟨f1, f2, f3, f4, f5⟩ := fin u fu.gr
    have eq := beq_run (d + 8) fu.rd f3
    have hput : putE e = some (putB e) := by simp [putE, hm]
    simp only [Nat.add_assoc, Nat.reduceAdd] at eq
    cases bad with
    | true =>
      obtain ⟨q1, q2, q3⟩ := f5 ent0
      have hp : ¬ (true = false ∧ putE e = some bs) := fun hh => by simp at hh
      rw [if_neg hp]
      refine ⟨_, ?_, q3⟩
      generalize u.set (s0.size + 1) (.cells true (cE ent0)) = u2 at *
      generalize R (d + 9) = r at *
      simp [l8, eu, aExtract, f1, gtt, agg8, q1, q2, rC, rT, retT, allV]
    | false =>
      by_cases hb : putB e = bs
      · obtain ⟨q1, q2, q3⟩ := f5 e
        rw [if_pos ⟨rfl, by rw [hput, hb]⟩]
        rw [decide_eq_true hb] at eq
        refine ⟨_, ?_, q3⟩
        generalize u.set (s0.size + 1) (.cells true (cE e)) = u2 at *
        generalize R (d + 9) = r at *
        simp [l8, eu, aExtract, f1, f2, f4, eq, q1, q2, rC, rT, retT, allV]
      · obtain ⟨q1, q2, q3⟩ := f5 ent0
        have hp : ¬ (false = false ∧ putE e = some bs) := fun hh => by
          rw [hput] at hh
          exact hb (by simpa using hh.2)
        rw [if_neg hp]
        rw [decide_eq_false hb] at eq
        refine ⟨_, ?_, q3⟩
        generalize u.set (s0.size + 1) (.cells true (cE ent0)) = u2 at *
        generalize R (d + 9) = r at *
        simp [l8, eu, aExtract, f1, f2, eq, agg8, q1, q2, rC, rT, retT, allV]

theorem dyn_clo {callf : CallF} {f a b c : Nat} {args : List T} {σ : St} (h : callable Tryz.prog f = true) : dyn Tryz.prog callf (Z (.clo f [(a, 0), (b, 0), (c, 0)])) args σ = callf f (args ++ [Z (.ptr a 0), Z (.ptr b 0), Z (.ptr c 0)]) σ := by
  simp [dyn, h, capT]

theorem set_field {e : Ent} : setRange (cE e) 2 [.int .i64 i] = cE { e with i := i } ∧ setRange (cE e) 3 [.int .i64 i] = cE { e with t := i } ∧ setRange (cE e) 4 [.int .i64 i] = cE { e with f := i } ∧ setRange (cE e) 5 [.int .i64 i] = cE { e with o := i } ∧
    setRange (cE e) 6 [.int .u32 i] = cE { e with u := i } ∧ setRange (cE e) 7 [.str bs] = cE { e with x := bs } := ⟨rfl, rfl, rfl, rfl, rfl, rfl⟩

theorem get_run (d : Nat) (wf : s.wf) (hx : RB s x bs) (hox : ∀ c, own x = some c → c < s.size) (hl : bs.length ≤ 8000) : ∃ τ, R (d + 10) 33 [Z x] s = some (resE (getE bs), τ) ∧ Gr s τ := by
  rw [f33_run]
  unfold f33
  obtain ⟨n, hn⟩ : ∃ n, n = s.size := ⟨_, rfl⟩
  obtain ⟨s1, hs1⟩ : ∃ s1, s1 = s.push (.cells true [x]) := ⟨_, rfl⟩
  have nw1 : aNew s (nBox (Z x)) = some (Z (.ptr n 0), s1) := by rw [hs1, hn]; rfl
  have g1 : Gr s s1 := by rw [hs1]; exact Gr.push wf _
  have z1 : s1.size = n + 1 := by rw [hs1, hn]; rfl
  have b1 : s1.get n = some (.cells true [x]) := by rw [hs1, hn]; exact St.get_push_same _ _
  obtain ⟨s2, hs2⟩ : ∃ s2, s2 = s1.push (.cells true (cE ent0)) := ⟨_, rfl⟩
  have nw2 : aNew s1 (nCells [.int .i64 0, .int .i64 0, .int .i64 0, .int .i64 0, .int .i64 0, .int .i64 0, .int .u32 0, .str []]) = some (Z (.ptr (n + 1) 0), s2) := by rw [hs2, ← z1]; rfl
  have g2 : Gr s1 s2 := by rw [hs2]; exact Gr.push g1.wf _
  have z2 : s2.size = n + 2 := by rw [hs2]; simp [z1]
  have b2 : s2.get (n + 1) = some (.cells true (cE ent0)) := by rw [hs2, ← z1]; exact St.get_push_same _ _
  have b1' : s2.get n = some (.cells true [x]) := by rw [g2.2.2 n (by omega)]; exact b1
  have ld1 : aLoad1 (Z (.ptr n 0)) s2.get = some (Z x) := aLoad1_of b1' rfl
  have hlen := hx.lenB
  cases hbs : bs with
  | nil =>
    rw [hbs] at hlen
    have st := store8 (e := ent0) b2 rfl
    have ld := load8 (g := (s2.set (n + 1) (.cells true (cE ent0))).get) (i := n + 1) (e := ent0) (St.get_set_same _ _ _)
    refine ⟨s2.set (n + 1) (.cells true (cE ent0)), ?_, ⟨St.wf_set g2.wf (by omega) _, by simp; omega, fun b hb => by rw [St.get_set_ne _ _ (by omega), g2.2.2 b (by omega), g1.2.2 b hb]⟩⟩
    generalize s2.set (n + 1) (.cells true (cE ent0)) = s3 at *
    simp [nw1, nw2, ld1, hlen, agg8, st, ld, rC, rT, retT, allV, getE]
  | cons c0 rest =>
    have hpos : 0 < bs.length := by rw [hbs]; simp
    obtain ⟨s6, hs6⟩ : ∃ s6, s6 = s2.push (.cells true [.int .i64 0]) := ⟨_, rfl⟩
    have nw6 : aNew s2 (nCells [.int .i64 0]) = some (Z (.ptr (n + 2) 0), s6) := by rw [hs6, ← z2]; rfl
    have g6 : Gr s2 s6 := by rw [hs6]; exact Gr.push g2.wf _
    have z6 : s6.size = n + 3 := by rw [hs6]; simp [z2]
    have b6 : s6.get (n + 2) = some (.cells true [.int .i64 0]) := by rw [hs6, ← z2]; exact St.get_push_same _ _
    obtain ⟨s7, hs7⟩ : ∃ s7, s7 = s6.push (.cells true [.bool false]) := ⟨_, rfl⟩
    have nw7 : aNew s6 (nCells [.bool false]) = some (Z (.ptr (n + 3) 0), s7) := by rw [hs7, ← z6]; rfl
    have g7 : Gr s6 s7 := by rw [hs7]; exact Gr.push g6.wf _
    have z7 : s7.size = n + 4 := by rw [hs7]; simp [z6]
    have b7 : s7.get (n + 3) = some (.cells true [.bool false]) := by rw [hs7, ← z6]; exact St.get_push_same _ _
    have b6' : s7.get (n + 2) = some (.cells true [.int .i64 0]) := by rw [g7.2.2 _ (by omega)]; exact b6
    obtain ⟨s8, hs8⟩ : ∃ s8, s8 = s7.set (n + 2) (.cells true [.int .i64 1]) := ⟨_, rfl⟩
    have st8 : aStore 1 (Z (.ptr (n + 2) 0)) (I .i64 1) s7 = some (tt, s8) := by rw [hs8]; exact aStore1_of b6' (by simp)
    have b7' : s8.get (n + 3) = some (.cells true [.bool false]) := by rw [hs8, St.get_set_ne _ _ (by omega)]; exact b7
    obtain ⟨s9, hs9⟩ : ∃ s9, s9 = s8.set (n + 3) (.cells true [.bool false]) := ⟨_, rfl⟩
    have st9 : aStore 1 (Z (.ptr (n + 3) 0)) (B false) s8 = some (tt, s9) := by rw [hs9]; exact aStore1_of b7' (by simp)
    have z9 : s9.size = n + 4 := by rw [hs9, hs8]; simpa using z7
    have wf8 : s8.wf := by rw [hs8]; exact St.wf_set g7.wf (by omega) _
    have wf9 : s9.wf := by rw [hs9]; exact St.wf_set wf8 (by rw [hs8]; simp [z7]) _
    have old9 : ∀ b, b < n + 2 → s9.get b = s2.get b := fun b hb => by rw [hs9, St.get_set_ne _ _ (by omega), hs8, St.get_set_ne _ _ (by omega), g7.2.2 b (by omega), g6.2.2 b (by omega)]
    have cur9 : Cur s s9 x bs 1 false := by
      refine ⟨⟨wf9, by omega, fun b hb => by rw [old9 b (by omega), g2.2.2 b (by omega), g1.2.2 b hb]⟩, by omega, by rw [← hn, old9 _ (by omega)]; exact b1', by rw [← hn, old9 _ (by omega)]; exact b2, ?_, by rw [← hn, hs9]; exact St.get_set_same _ _ _, by omega⟩
      rw [← hn, hs9, St.get_set_ne _ _ (by omega), hs8]
      exact St.get_set_same _ _ _
    have ld9 : aLoad1 (Z (.ptr n 0)) s9.get = some (Z x) := by rw [hn]; exact aLoad1_of cur9.c1 rfl
    have rx9 : RB s9 x bs := hx.gr hox cur9.gr
    have hc0 : bs[0]? = some c0 := by rw [hbs]; rfl
    obtain ⟨p0, ix0, lp0⟩ := RB.atB rx9 (n := 0) (j := 0) rfl hc0
    have clo : aClo 53 [Z (.ptr n 0), Z (.ptr (n + 2) 0), Z (.ptr (n + 3) 0)] [] = some (Z (.clo 53 [(n, 0), (n + 2, 0), (n + 3, 0)])) := rfl
    have hcal : callable Tryz.prog 53 = true := by kernel_rfl
    have dy : ∀ (r : CallF) (m : Int) (u : St), dyn Tryz.prog r (Z (.clo 53 [(n, 0), (n + 2, 0), (n + 3, 0)])) [I .u64 m] u = r 53 [I .u64 m, Z (.ptr n 0), Z (.ptr (n + 2) 0), Z (.ptr (n + 3) 0)] u := fun r m u => dyn_clo hcal
    have nxr : ∀ (u : St) (a : Nat) (bad : Bool) (most : Nat), Cur s u x bs a bad → most < 2 ^ 63 → ∃ t, R (d + 9) 53 [I .u64 (most : Nat), Z (.ptr n 0), Z (.ptr (n + 2) 0), Z (.ptr (n + 3) 0)] u = some (I .i64 ((nxt bs most a bad).1 : Nat), t) ∧ Cur s t x bs (nxt bs most a bad).2.1 (nxt bs most a bad).2.2 ∧ t.size = u.size ∧
        ∀ b, b ≠ n + 2 → b ≠ n + 3 → t.get b = u.get b := fun u a bad most hc hm => by
      have := next_run (d + 7) hc hx hox hl most hm
      rw [← hn] at this
      exact this
    obtain ⟨s10, e10, cur10, z10, k10⟩ := nxr s9 1 false 1073741824 cur9 (by decide)
    obtain ⟨P, hP⟩ : ∃ P, P = nxt bs 1073741824 1 false := ⟨_, rfl⟩
    rw [← hP] at e10 cur10
    obtain ⟨s11, hs11⟩ : ∃ s11, s11 = s10.push (.cells true (cE ent0)) := ⟨_, rfl⟩
    have nw11 : aNew s10 (nCells [.int .i64 0, .int .i64 0, .int .i64 0, .int .i64 0, .int .i64 0, .int .i64 0, .int .u32 0, .str []]) = some (Z (.ptr (n + 4) 0), s11) := by rw [hs11, show n + 4 = s10.size by omega]; rfl
    have g11 : Gr s10 s11 := by rw [hs11]; exact Gr.push cur10.gr.wf _
    have z11 : s11.size = n + 5 := by rw [hs11]; simp; omega
    have b11 : s11.get (n + 4) = some (.cells true (cE ent0)) := by rw [hs11, show n + 4 = s10.size by omega]; exact St.get_push_same _ _
    obtain ⟨e0, he0⟩ : ∃ e0 : Ent, e0 = { ent0 with k := c0.toNat, v := (P.1 : Nat) } := ⟨_, rfl⟩
    have ag0 : asAggT (aFill [.int .i64 0, .int .i64 0, .int .i64 0, .int .i64 0, .int .i64 0, .int .i64 0, .int .u32 0, .str []] [(0, 1, I .i64 (c0.toNat : Int)), (1, 1, I .i64 ((P.1 : Nat) : Int))]) = some (AE e0) := by rw [he0]; rfl
    obtain ⟨s12, hs12⟩ : ∃ s12, s12 = s11.set (n + 4) (.cells true (cE e0)) := ⟨_, rfl⟩
    have st12 := store8 (e := e0) b11 rfl
    rw [← hs12] at st12
    have cur12 : Cur s s12 x bs P.2.1 P.2.2 := by rw [hs12]; exact (cur10.gr' g11).set (by omega) (by omega) _
    have z12 : s12.size = n + 5 := by rw [hs12]; simpa using z11
    have b12 : s12.get (n + 4) = some (.cells true (cE e0)) := by rw [hs12]; exact St.get_set_same _ _ _
    -- the looks at what was read before
    have hupd : ∀ (q : T) (v : S), aLoad1 q s9.get = some (Z v) → (∀ b o, q = Z (.ptr b o) → b < s.size ∨ b = n) → aLoad1 q (updM s10.get s10.size (.cells true [.int .i64 0, .int .i64 0, .int .i64 0, .int .i64 0, .int .i64 0, .int .i64 0, .int .u32 0, .str []])) = aLoad1 q s9.get := by
      intro q v hq hb
      cases q with
      | any => cases hq
      | tup _ => cases hq
      | v w => cases w with
        | agg _ => cases hq
        | s w => cases w with
          | ptr b o =>
            have hb' := hb b o rfl
            have e1 : updM s10.get s10.size (.cells true [.int .i64 0, .int .i64 0, .int .i64 0, .int .i64 0, .int .i64 0, .int .i64 0, .int .u32 0, .str []]) b = s9.get b := by
              rw [updM_ne _ _ (by omega)]
              exact k10 b (by omega) (by omega)
            simp only [aLoad1, e1]
          | _ => cases hq
    have ck1 := hupd (Z (.ptr n 0)) x ld9 (fun b o e => by cases e; exact .inr rfl)
    have ck2 := hupd p0 (.int .u8 c0.toNat) lp0 (fun b o e => by
      subst e
      rcases rx9.rd with ⟨h0, _⟩ | ⟨c, o', cap, w, rows, rfl, _⟩
      · omega
      · have h2 := hox c rfl
        simp only [aIndexSl] at ix0
        split at ix0
        · cases ix0; exact .inl h2
        · cases ix0)
    have hkind : aLoad1 (Z (.ptr (n + 4) 0)) s12.get = some (I .i64 (c0.toNat : Int)) := aLoad1_of b12 (by rw [he0]; rfl)
    have w0 : IntKind.i64.wrap (c0.toNat : Int) = (c0.toNat : Int) := wrap_in _ (by have := c0.toNat_lt; omega) (by have := c0.toNat_lt; omega)
    have hne : ¬ ((bs.length : Int) = 0) := by omega
    have hget : getE bs = match getFields bs c0 with
      | none => none
      | some (e, bad) => if bad = false ∧ putE e = some bs then some e else none := by rw [hbs]; rfl
    rw [← hbs, hget]
    have nxq : ∀ (u : St) (a : Nat) (bad : Bool) (e : Ent) (most : Nat), (Cur s u x bs a bad ∧ u.size = n + 5 ∧ u.get (n + 4) = some (.cells true (cE e))) → most < 2 ^ 63 → ∃ t, R (d + 9) 53 [I .u64 (most : Nat), Z (.ptr n 0), Z (.ptr (n + 2) 0), Z (.ptr (n + 3) 0)] u = some (I .i64 ((nxt bs most a bad).1 : Nat), t) ∧
        (Cur s t x bs (nxt bs most a bad).2.1 (nxt bs most a bad).2.2 ∧ t.size = n + 5 ∧ t.get (n + 4) = some (.cells true (cE e))) := fun u a bad e most hq hm => by
      obtain ⟨t, e1, c1, z, k⟩ := nxr u a bad most hq.1 hm
      exact ⟨t, e1, c1, by rw [z]; exact hq.2.1, by rw [k _ (by omega) (by omega)]; exact hq.2.2⟩
    have stq : ∀ (u : St) (a : Nat) (bad : Bool) (e e' : Ent) (off : Nat) (val : S), (Cur s u x bs a bad ∧ u.size = n + 5 ∧ u.get (n + 4) = some (.cells true (cE e))) → setRange (cE e) off [val] = cE e' → off < 8 → ∃ t, aStore 1 (Z (.ptr (n + 4) off)) (Z val) u = some (tt, t) ∧
        (Cur s t x bs a bad ∧ t.size = n + 5 ∧ t.get (n + 4) = some (.cells true (cE e'))) := fun u a bad e e' off val hq hs ho => by
      have st := aStore1_of (x := val) hq.2.2 (by simpa [cE] using ho)
      rw [hs] at st
      exact ⟨_, st, hq.1.set (by omega) (by have := hq.2.1; omega) _, by simpa using hq.2.1, St.get_set_same _ _ _⟩
    have finq : ∀ (u : St) (a : Nat) (bad : Bool) (e : Ent), (Cur s u x bs a bad ∧ u.size = n + 5 ∧ u.get (n + 4) = some (.cells true (cE e))) → EWf e → ∃ τ, getTail (R (d + 9)) [Z (.ptr n 0), Z (.ptr (n + 1) 0), Z (.ptr (n + 3) 0), Z (.ptr (n + 4) 0)] u = some (resE (if bad = false ∧ putE e = some bs then some e else none), τ) ∧ Gr s τ := fun u a bad e hq hw => by
      have := tail_run d hq.1 hx hox (by rw [← hn]; exact hq.2.1) (by rw [← hn]; exact hq.2.2) hw
      rw [← hn] at this
      exact this
    have q12 : Cur s s12 x bs P.2.1 P.2.2 ∧ s12.size = n + 5 ∧ s12.get (n + 4) = some (.cells true (cE e0)) := ⟨cur12, z12, b12⟩
    have hw0 : EWf e0 := by rw [he0]; exact ⟨Int.le_refl 0, (by decide : (0 : Int) < 4294967296)⟩
    obtain ⟨C, hC⟩ : ∃ C, C = (c0.toNat : Int) := ⟨_, rfl⟩
    rw [← hC] at lp0 ag0 hkind w0
    simp only [aLenSl] at hlen
    have hlen' := hx.lenB
    have hnd : ¬ bs = [] := fun e => by rw [e] at hpos; simp at hpos
    by_cases k1 : c0.toNat = 1
    · have d1 : decide (C = 1) = true := decide_eq_true (by omega)
      obtain ⟨s13, e13, q13⟩ := nxq s12 _ _ _ 1073741824 q12 (by decide)
      obtain ⟨I1, hI1⟩ : ∃ I1, I1 = nxt bs 1073741824 P.2.1 P.2.2 := ⟨_, rfl⟩
      rw [← hI1] at e13 q13
      obtain ⟨s14, e14, q14⟩ := nxq s13 _ _ _ 4 q13 (by decide)
      obtain ⟨T1, hT1⟩ : ∃ T1, T1 = nxt bs 4 I1.2.1 I1.2.2 := ⟨_, rfl⟩
      rw [← hT1] at e14 q14
      obtain ⟨s15, e15, q15⟩ := stq s14 _ _ _ { e0 with i := (I1.1 : Nat) } 2 (.int .i64 (I1.1 : Nat)) q14 rfl (by omega)
      obtain ⟨s16, e16, q16⟩ := stq s15 _ _ _ { e0 with i := (I1.1 : Nat), t := (T1.1 : Nat) } 3 (.int .i64 (T1.1 : Nat)) q15 rfl (by omega)
      obtain ⟨s17, e17, q17⟩ := nxq s16 _ _ _ 1099511627776 q16 (by decide)
      obtain ⟨F1, hF1⟩ : ∃ F1, F1 = nxt bs 1099511627776 T1.2.1 T1.2.2 := ⟨_, rfl⟩
      rw [← hF1] at e17 q17
      obtain ⟨s18, e18, q18⟩ := nxq s17 _ _ _ 1099511627776 q17 (by decide)
      obtain ⟨O1, hO1⟩ : ∃ O1, O1 = nxt bs 1099511627776 F1.2.1 F1.2.2 := ⟨_, rfl⟩
      rw [← hO1] at e18 q18
      obtain ⟨s19, e19, q19⟩ := stq s18 _ _ _ { e0 with i := (I1.1 : Nat), t := (T1.1 : Nat), f := (F1.1 : Nat) } 4 (.int .i64 (F1.1 : Nat)) q18 rfl (by omega)
      obtain ⟨s20, e20, q20⟩ := stq s19 _ _ _ { e0 with i := (I1.1 : Nat), t := (T1.1 : Nat), f := (F1.1 : Nat), o := (O1.1 : Nat) } 5 (.int .i64 (O1.1 : Nat)) q19 rfl (by omega)
      obtain ⟨s21, e21, q21⟩ := nxq s20 _ _ _ 4294967295 q20 (by decide)
      obtain ⟨U1, hU1⟩ : ∃ U1, U1 = nxt bs 4294967295 O1.2.1 O1.2.2 := ⟨_, rfl⟩
      have hUl : U1.1 ≤ 4294967295 := by rw [hU1]; exact nxt_le
      rw [← hU1] at e21 q21
      have wU : IntKind.u32.wrap (U1.1 : Int) = (U1.1 : Int) := by rw [wrap32]; omega
      obtain ⟨s22, e22, q22⟩ := stq s21 _ _ _ { e0 with i := (I1.1 : Nat), t := (T1.1 : Nat), f := (F1.1 : Nat), o := (O1.1 : Nat), u := (U1.1 : Nat) } 6 (.int .u32 (U1.1 : Nat)) q21 rfl (by omega)
      obtain ⟨τ, et, gt⟩ := finq s22 _ _ _ q22 ⟨by show (0 : Int) ≤ (U1.1 : Nat); omega, by show ((U1.1 : Nat) : Int) < 4294967296; omega⟩
      have hres : getFields bs c0 = some ({ e0 with i := (I1.1 : Nat), t := (T1.1 : Nat), f := (F1.1 : Nat), o := (O1.1 : Nat), u := (U1.1 : Nat) }, U1.2.2) := by
        unfold getFields
        rw [if_pos k1]
        simp only [← hP, ← hI1, ← hT1, ← hF1, ← hO1, ← hU1, he0]
      rw [hres]
      refine ⟨τ, ?_, gt⟩
      clear nxq stq finq nxr hupd q13 q14 q15 q16 q17 q18 q19 q20 q21 q22
      generalize resE (if U1.2.2 = false ∧ putE { e0 with i := (I1.1 : Nat), t := (T1.1 : Nat), f := (F1.1 : Nat), o := (O1.1 : Nat), u := (U1.1 : Nat) } = some bs then some { e0 with i := (I1.1 : Nat), t := (T1.1 : Nat), f := (F1.1 : Nat), o := (O1.1 : Nat), u := (U1.1 : Nat) } else none) = RES at *
      unfold getTail at et
      generalize R (d + 9) = r at *
      generalize ((P.1 : Nat) : Int) = PV at *
      generalize ((I1.1 : Nat) : Int) = IV at *
      generalize ((T1.1 : Nat) : Int) = TV at *
      generalize ((F1.1 : Nat) : Int) = FV at *
      generalize ((O1.1 : Nat) : Int) = OV at *
      generalize ((U1.1 : Nat) : Int) = UV at *
      have e10' : r 53 [I .u64 1073741824, Z (.ptr n 0), Z (.ptr (n + 2) 0), Z (.ptr (n + 3) 0)] s9 = some (I .i64 PV, s10) := e10
      have e13' : r 53 [I .u64 1073741824, Z (.ptr n 0), Z (.ptr (n + 2) 0), Z (.ptr (n + 3) 0)] s12 = some (I .i64 IV, s13) := e13
      have e14' : r 53 [I .u64 4, Z (.ptr n 0), Z (.ptr (n + 2) 0), Z (.ptr (n + 3) 0)] s13 = some (I .i64 TV, s14) := e14
      have e17' : r 53 [I .u64 1099511627776, Z (.ptr n 0), Z (.ptr (n + 2) 0), Z (.ptr (n + 3) 0)] s16 = some (I .i64 FV, s17) := e17
      have e18' : r 53 [I .u64 1099511627776, Z (.ptr n 0), Z (.ptr (n + 2) 0), Z (.ptr (n + 3) 0)] s17 = some (I .i64 OV, s18) := e18
      have e21' : r 53 [I .u64 4294967295, Z (.ptr n 0), Z (.ptr (n + 2) 0), Z (.ptr (n + 3) 0)] s20 = some (I .i64 UV, s21) := e21
      simpa [nw1, nw2, ld1, hlen', hnd, nw6, nw7, st8, st9, clo, ld9, ix0, lp0, w0, dy, e10', ag0, nw11, st12, ck1, ck2, hkind, d1, e13', e14', e15, e16, e17', e18', e19, e20, e21', wU, e22] using et
    · have d1 : decide (C = 1) = false := decide_eq_false (by omega)
      by_cases k2 : c0.toNat = 2
      · have d2 : decide (C = 2) = true := decide_eq_true (by omega)
        obtain ⟨s13, e13, q13⟩ := nxq s12 _ _ _ 1073741824 q12 (by decide)
        obtain ⟨I1, hI1⟩ : ∃ I1, I1 = nxt bs 1073741824 P.2.1 P.2.2 := ⟨_, rfl⟩
        rw [← hI1] at e13 q13
        obtain ⟨s14, e14, q14⟩ := stq s13 _ _ _ { e0 with i := (I1.1 : Nat) } 2 (.int .i64 (I1.1 : Nat)) q13 rfl (by omega)
        obtain ⟨τ, et, gt⟩ := finq s14 _ _ _ q14 hw0
        have hres : getFields bs c0 = some ({ e0 with i := (I1.1 : Nat) }, I1.2.2) := by
          unfold getFields
          rw [if_neg k1, if_pos k2]
          simp only [← hP, ← hI1, he0]
        rw [hres]
        refine ⟨τ, ?_, gt⟩
        clear nxq stq finq nxr hupd q13 q14
        generalize resE (if I1.2.2 = false ∧ putE { e0 with i := (I1.1 : Nat) } = some bs then some { e0 with i := (I1.1 : Nat) } else none) = RES at *
        unfold getTail at et
        generalize R (d + 9) = r at *
        generalize ((P.1 : Nat) : Int) = PV at *
        generalize ((I1.1 : Nat) : Int) = IV at *
        have e10' : r 53 [I .u64 1073741824, Z (.ptr n 0), Z (.ptr (n + 2) 0), Z (.ptr (n + 3) 0)] s9 = some (I .i64 PV, s10) := e10
        have e13' : r 53 [I .u64 1073741824, Z (.ptr n 0), Z (.ptr (n + 2) 0), Z (.ptr (n + 3) 0)] s12 = some (I .i64 IV, s13) := e13
        simpa [nw1, nw2, ld1, hlen', hnd, nw6, nw7, st8, st9, clo, ld9, ix0, lp0, w0, dy, e10', ag0, nw11, st12, ck1, ck2, hkind, d1, d2, e13', e14] using et
      · have d2 : decide (C = 2) = false := decide_eq_false (by omega)
        by_cases k4 : c0.toNat = 4
        · have d4 : decide (C = 4) = true := decide_eq_true (by omega)
          obtain ⟨s13, e13, q13⟩ := nxq s12 _ _ _ 300 q12 (by decide)
          obtain ⟨M1, hM1⟩ : ∃ M1, M1 = nxt bs 300 P.2.1 P.2.2 := ⟨_, rfl⟩
          have hMl : M1.1 ≤ 300 := by rw [hM1]; exact nxt_le
          rw [← hM1] at e13 q13
          have hat := q13.1.le
          have lb : aLoad1 (Z (.ptr (n + 3) 0)) s13.get = some (B M1.2.2) := by rw [hn]; exact aLoad1_of q13.1.c5 rfl
          have lx : aLoad1 (Z (.ptr n 0)) s13.get = some (Z x) := by rw [hn]; exact aLoad1_of q13.1.c1 rfl
          have la : aLoad1 (Z (.ptr (n + 2) 0)) s13.get = some (I .i64 (M1.2.1 : Nat)) := by rw [hn]; exact aLoad1_of q13.1.c4 rfl
          have l2 : s13.get (n + 1) = some (.cells true (cE ent0)) := by rw [hn]; exact q13.1.c2
          have wsub : IntKind.i64.wrap ((bs.length : Int) - ((M1.2.1 : Nat) : Int)) = (bs.length : Int) - ((M1.2.1 : Nat) : Int) := wrap_in _ (by omega) (by omega)
          have wadd : IntKind.i64.wrap (((M1.2.1 : Nat) : Int) + ((M1.1 : Nat) : Int)) = ((M1.2.1 + M1.1 : Nat) : Int) := by rw [wrap_in _ (by omega) (by omega)]; omega
          have e10' : R (d + 9) 53 [I .u64 1073741824, Z (.ptr n 0), Z (.ptr (n + 2) 0), Z (.ptr (n + 3) 0)] s9 = some (I .i64 ((P.1 : Nat) : Int), s10) := e10
          have e13' : R (d + 9) 53 [I .u64 300, Z (.ptr n 0), Z (.ptr (n + 2) 0), Z (.ptr (n + 3) 0)] s12 = some (I .i64 ((M1.1 : Nat) : Int), s13) := e13
          by_cases hbad : M1.2.2 = true ∨ bs.length < M1.2.1 + M1.1
          · have hres : getFields bs c0 = none := by
              unfold getFields
              rw [if_neg k1, if_neg k2, if_pos k4]
              simp only [← hP, ← hM1]
              rw [if_pos hbad]
            rw [hres]
            have st := store8 (e := ent0) l2 rfl
            have ld := load8 (g := (s13.set (n + 1) (.cells true (cE ent0))).get) (i := n + 1) (e := ent0) (St.get_set_same _ _ _)
            refine ⟨s13.set (n + 1) (.cells true (cE ent0)), ?_, ⟨St.wf_set q13.1.gr.wf (by have := q13.2.1; omega) _, by simpa using q13.1.gr.2.1, fun b hb => by rw [St.get_set_ne _ _ (by omega)]; exact q13.1.gr.2.2 b hb⟩⟩
            clear nxq stq finq nxr hupd q13
            generalize s13.set (n + 1) (.cells true (cE ent0)) = s14 at *
            generalize R (d + 9) = r at *
            cases hb2 : M1.2.2 with
            | true =>
              rw [hb2] at lb
              generalize ((P.1 : Nat) : Int) = PV at *
              generalize ((M1.1 : Nat) : Int) = MV at *
              simp [nw1, nw2, ld1, hlen', hnd, nw6, nw7, st8, st9, clo, ld9, ix0, lp0, w0, dy, e10', ag0, nw11, st12, ck1, ck2, hkind, d1, d2, d4, e13', lb, gtt, agg8, st, ld, rC, rT, retT, allV]
            | false =>
              rw [hb2] at lb hbad
              have hgt : (bs.length : Int) - ((M1.2.1 : Nat) : Int) < ((M1.1 : Nat) : Int) := by
                rcases hbad with h | h
                · cases h
                · omega
              have dgt : decide ((bs.length : Int) - ((M1.2.1 : Nat) : Int) < ((M1.1 : Nat) : Int)) = true := decide_eq_true hgt
              generalize ((P.1 : Nat) : Int) = PV at *
              generalize ((M1.1 : Nat) : Int) = MV at *
              generalize ((M1.2.1 : Nat) : Int) = AV at *
              simp [nw1, nw2, ld1, hlen', hnd, nw6, nw7, st8, st9, clo, ld9, ix0, lp0, w0, dy, e10', ag0, nw11, st12, ck1, ck2, hkind, d1, d2, d4, e13', lb, lx, la, wsub, hgt, agg8, st, ld, rC, rT, retT, allV]
          · have hb2 : M1.2.2 = false := by
              cases h : M1.2.2 with
              | false => rfl
              | true => exact absurd (.inl h) hbad
            have hle : M1.2.1 + M1.1 ≤ bs.length := by
              apply Nat.le_of_not_lt
              exact fun h => hbad (.inr h)
            have hgt : ¬ ((bs.length : Int) - ((M1.2.1 : Nat) : Int) < ((M1.1 : Nat) : Int)) := by omega
            rw [hb2] at lb
            have rx13 : RB s13 x bs := hx.gr hox q13.1.gr
            obtain ⟨y, pc, ry, _⟩ := rx13.piece (lo := M1.2.1) (hi := M1.2.1 + M1.1) (by omega) hle
            have hpl : M1.2.1 + M1.1 - M1.2.1 = M1.1 := by omega
            rw [hpl, Nat.mul_one, Nat.mul_one, U_drop, U_take] at ry
            have ry' : RB s13 y ((bs.drop M1.2.1).take M1.1) := by
              have : ((bs.drop M1.2.1).take M1.1).length = M1.1 := by rw [List.length_take, List.length_drop]; omega
              unfold RB
              rw [this]
              exact ry
            have hstr := ry'.str
            obtain ⟨s14, e14, q14⟩ := stq s13 _ _ _ { e0 with x := (bs.drop M1.2.1).take M1.1 } 7 (.str ((bs.drop M1.2.1).take M1.1)) q13 rfl (by omega)
            obtain ⟨τ, et, gt⟩ := finq s14 _ _ _ q14 hw0
            have hres : getFields bs c0 = some ({ e0 with x := (bs.drop M1.2.1).take M1.1 }, M1.2.2) := by
              unfold getFields
              rw [if_neg k1, if_neg k2, if_pos k4]
              simp only [← hP, ← hM1]
              rw [if_neg hbad, he0]
            rw [hres]
            refine ⟨τ, ?_, gt⟩
            clear nxq stq finq nxr hupd q13 q14
            generalize resE (if M1.2.2 = false ∧ putE { e0 with x := (bs.drop M1.2.1).take M1.1 } = some bs then some { e0 with x := (bs.drop M1.2.1).take M1.1 } else none) = RES at *
            unfold getTail at et
            generalize R (d + 9) = r at *
            generalize (bs.drop M1.2.1).take M1.1 = XX at *
            generalize ((P.1 : Nat) : Int) = PV at *
            generalize ((M1.2.1 + M1.1 : Nat) : Int) = BV at *
            generalize ((M1.1 : Nat) : Int) = MV at *
            generalize ((M1.2.1 : Nat) : Int) = AV at *
            simpa [nw1, nw2, ld1, hlen', hnd, nw6, nw7, st8, st9, clo, ld9, ix0, lp0, w0, dy, e10', ag0, nw11, st12, ck1, ck2, hkind, d1, d2, d4, e13', lb, lx, la, wsub, hgt, wadd, pc, hstr, e14] using et
        · have d4 : decide (C = 4) = false := decide_eq_false (by omega)
          obtain ⟨τ, et, gt⟩ := finq s12 _ _ _ q12 hw0
          have hres : getFields bs c0 = some (e0, P.2.2) := by
            unfold getFields
            rw [if_neg k1, if_neg k2, if_neg k4]
            simp only [← hP, he0]
          rw [hres]
          refine ⟨τ, ?_, gt⟩
          clear nxq stq finq nxr hupd
          generalize resE (if P.2.2 = false ∧ putE e0 = some bs then some e0 else none) = RES at *
          unfold getTail at et
          generalize R (d + 9) = r at *
          generalize ((P.1 : Nat) : Int) = PV at *
          have e10' : r 53 [I .u64 1073741824, Z (.ptr n 0), Z (.ptr (n + 2) 0), Z (.ptr (n + 3) 0)] s9 = some (I .i64 PV, s10) := e10
          simpa [nw1, nw2, ld1, hlen', hnd, nw6, nw7, st8, st9, clo, ld9, ix0, lp0, w0, dy, e10', ag0, nw11, st12, ck1, ck2, hkind, d1, d2, d4] using et
end
end Go.Proofs.YtlhbidbdmdcdeaaGreatDoor

/-
  Frames: what log.Wrap, Open, Frame, All, Read, Meet and Front compute, in any store. No conditions but those named in each line.
-/
namespace Go.Proofs.YtlhbidbdmdcdeaaGreatDoor
open Go Go.Abs Go.Abs.F
set_option linter.unusedVariables false

theorem sumB_append (n : Nat) : ∀ a b : Bs, sumB n (a ++ b) = sumB (sumB n a) b
  | [], b => rfl
  | c :: a, b => sumB_append _ a b

def wrapB (bs : Bs) : Bs := vput bs.length ++ four (sumB 1 (vput bs.length ++ bs)) ++ bs
def openB (bs : Bs) (at_ : Nat) : Option (Bs × Nat) := match vget bs at_ with
  | none => none
  | some (n, to) => if bs.length < to + 4 ∨ bs.length - to - 4 < n then none else
    if (bs.drop at_).take (to + 4 + n - at_) = wrapB ((bs.drop (to + 4)).take n) then some ((bs.drop (to + 4)).take n, to + 4 + n) else none
def frameE (e : Ent) : Option Bs := if mayE e then some (wrapB (putB e)) else none
def framesB : List Ent → Bs
  | [] => []
  | e :: r => wrapB (putB e) ++ framesB r
def allP (l : List Ent) : Bs × Int := if l.all mayE then (if l.length ≤ 2000 then (framesB l, 0) else ([], 8)) else ([], 1)
def readL (bs : Bs) : Nat → Nat → List Ent → List Ent × Nat
  | 0, at_, acc => (acc, at_)
  | f + 1, at_, acc => match openB bs at_ with
    | none => (acc, at_)
    | some (x, to) => match getE x with
      | none => (acc, at_)
      | some e => readL bs f to (acc ++ [e])
def readP (bs : Bs) : List Ent × Nat := readL bs 2000 0 []
def meetP : List Ent → List Ent → Nat
  | a :: r, b :: t => if a = b then meetP r t + 1 else 0
  | _, _ => 0

/-- A slice of entries. -/
abbrev RE (s : St) (x : S) (l : List Ent) : Prop := Rd 8 s x l.length (cells cE l)
abbrev FE (s0 s : St) (x : S) (l : List Ent) : Prop := Fr 8 s0 s x l.length (cells cE l)

section
variable {s t : St} {x y : S} {bs cs : Bs} {i : Nat} {l m : List Ent}

theorem RE.atE (h : RE s x l) {j : Nat} {n : Int} {e : Ent} (hn : n = j) (he : l[j]? = some e) : ∃ p, aIndexSl 8 (Z x) (I .i64 n) = some p ∧ aLoadN 8 p s.get = some (AE e) := by
  obtain ⟨c, p, h1, _, h3⟩ := Rd.at h hn (List.getElem?_eq_some_iff.1 he).1
  rw [cells_row cE_len he] at h3
  exact ⟨_, h1, h3⟩

theorem FE.lit {s0 : St} {e : Ent} (h : FE s0 s x l) (hl : l.length ≤ 1000000) :
    ∃ x' t s', aNew s (nSlice 1 (aFill [.int .i64 0, .int .i64 0, .int .i64 0, .int .i64 0, .int .i64 0, .int .i64 0, .int .u32 0, .str []] [(0, 8, AE e)])) = some (Z (.sl s.size 0 1 (.known 1)), s') ∧ aAppend 8 72 (Z x) (Z (.sl s.size 0 1 (.known 1))) s' = some (Z x', t) ∧ FE s0 t x' (l ++ [e]) ∧ s.size ≤ t.size := by
  have L := Fr.lit 8 h.gr.1 (n := 1) (vs := cells cE [e]) (by simp [cE])
  obtain ⟨x', t, e1, f, hz, k⟩ := (h.gr' L.gr).append (by_ := 72) (by omega) L.rd.src (by simp [cE]) (by omega)
  refine ⟨x', t, _, rfl, e1, ?_, Nat.le_trans L.gr.2.1 hz⟩
  unfold FE
  rw [cells_append, List.length_append]
  exact f

theorem more_run (d : Nat) {q0 : Nat} (hq0 : q0 < 4294967291) (h : RB s x bs) (hl : bs.length ≤ 8000) : R (d + 1) 68 [I .u32 (q0 : Nat), Z x] s = some (I .u32 (sumB q0 bs), s) := by
  rw [f68_run]
  unfold f68
  have hll := h.lenB
  obtain ⟨j, τ, lp, hj, hτ⟩ := loops_inv (f := f68_l1 (R d) 8192) (fun q v u => ∃ k n : Nat, q + k = bs.length ∧ v = [I .u64 n, Z x, I .i64 bs.length, I .i64 k] ∧ u = s ∧ n < 4294967291 ∧ sumB n (bs.drop k) = sumB q0 bs)
    (fun j u => j = .exit 0 [I .u64 (sumB q0 bs)] ∧ u = s) (by
    rintro q v u ⟨k, n, hk, rfl, rfl, hn, hg⟩
    by_cases hkl : k < bs.length
    · left
      have hc : bs[k]? = some bs[k] := List.getElem?_eq_getElem hkl
      have hd : bs.drop k = bs[k] :: bs.drop (k + 1) := List.drop_eq_getElem_cons hkl
      rw [hd] at hg
      obtain ⟨p, ix, ld⟩ := h.atB (n := (k : Int)) rfl hc
      have hcb : bs[k].toNat < 256 := bs[k].toNat_lt
      obtain ⟨A1, A2, A3, A4, hA4, m1, m2, m3, m4⟩ : ∃ A1 A2 A3 A4 : Int, A4 = (((n * 257 + bs[k].toNat + 1) % 4294967291 : Nat) : Int) ∧ aBin .mul (I .u64 n) (I .u64 257) = some (I .u64 A1) ∧ aBin .add (I .u64 A1) (I .u64 bs[k].toNat) = some (I .u64 A2) ∧
          aBin .add (I .u64 A2) (I .u64 1) = some (I .u64 A3) ∧ aBin .rem (I .u64 A3) (I .u64 4294967291) = some (I .u64 A4) := ⟨_, _, _, _, rfl, More.step n bs[k].toNat hn hcb u⟩
      have hw : IntKind.u64.wrap (bs[k].toNat : Int) = (bs[k].toNat : Int) := wrap64 _ (by omega)
      have w1 : IntKind.i64.wrap ((k : Int) + 1) = ((k + 1 : Nat) : Int) := by rw [wrap_in _ (by omega) (by omega)]; omega
      have c0 : ((k : Int) < (bs.length : Int)) = True := eq_true (by omega)
      refine ⟨[I .u64 (((n * 257 + bs[k].toNat + 1) % 4294967291 : Nat)), Z x, I .i64 bs.length, I .i64 ((k + 1 : Nat) : Int)], u, q - 1, ?_, by omega, k + 1, _, by omega, rfl, rfl, Nat.mod_lt _ (by decide), hg⟩
      unfold f68_l1
      generalize ((k + 1 : Nat) : Int) = K1 at w1 ⊢
      rw [← hA4]
      generalize (bs[k].toNat : Int) = C at m2 ld hw
      generalize (k : Int) = K at w1 ix c0 ⊢
      simp only [jn_normal, bd_some, List.getD_cons_zero, List.getD_cons_succ, lss_int, br_true, decide_true, c0, ix, ld, m1, m2, m3, m4, aConv_int, hw, add_int, w1]
    · right
      have hk' : k = bs.length := by omega
      have c0 : ¬ ((k : Int) < (bs.length : Int)) := by omega
      have hg' : n = sumB q0 bs := by
        rw [List.drop_eq_nil_of_le (by omega)] at hg
        exact hg
      refine ⟨.exit 0 [I .u64 (sumB q0 bs)], u, ?_, (fun v hv => by cases hv), rfl, rfl⟩
      unfold f68_l1
      rw [hg']
      simp [c0]) 8192 bs.length [I .u64 (q0 : Nat), Z x, I .i64 bs.length, I .i64 0] s ⟨0, q0, rfl, rfl, rfl, hq0, rfl⟩ (by omega)
  subst hj; subst hτ
  have hlt := sumB_lt bs q0 hq0
  have h32 : IntKind.u32.wrap (sumB q0 bs : Int) = (sumB q0 bs : Int) := by rw [wrap32, Nat.mod_eq_of_lt (by omega)]
  have e1 : aConv .u64 (I .u32 (q0 : Nat)) = some (I .u64 (q0 : Nat)) := by rw [aConv_int, wrap64 _ (by omega)]
  have e2 : aBin .rem (I .u64 (q0 : Nat)) (I .u64 4294967291) = some (I .u64 (q0 : Nat)) := by
    rw [rem_int _ _ _ (by decide), Int.tmod_eq_emod_of_nonneg (by omega), Int.emod_eq_of_lt (by omega) (by omega)]
  simp [e1, e2, hll, lp, h32]

theorem low_run (d : Nat) (wf : s.wf) (q : Nat) : ∃ y t, R (d + 1) 67 [I .u32 q] s = some (Z y, t) ∧ FB s t y (four q) := by
  rw [f67_run]
  unfold f67
  have nw := lit4 s (q % 256) (q / 2 ^ 8 % 256) (q / 2 ^ 16 % 256) (q / 2 ^ 24 % 256)
  have hU : U (four q) = [.int .u8 (q % 256 : Nat), .int .u8 (q / 2 ^ 8 % 256 : Nat), .int .u8 (q / 2 ^ 16 % 256 : Nat), .int .u8 (q / 2 ^ 24 % 256 : Nat)] := by
    simp only [U, four, List.map_cons, List.map_nil, byte_nat]
  rw [← hU] at nw
  have c0 := wrap8 q
  have c1 := wrap8 (q / 2 ^ 8)
  have c2 := wrap8 (q / 2 ^ 16)
  have c3 := wrap8 (q / 2 ^ 24)
  have r1 : aBin .shr (I .u32 q) (I .u64 8) = some (I .u32 ((q / 2 ^ 8 : Nat))) := shr_nat .u32 q 8 (by decide)
  have r2 : aBin .shr (I .u32 q) (I .u64 16) = some (I .u32 ((q / 2 ^ 16 : Nat))) := shr_nat .u32 q 16 (by decide)
  have r3 : aBin .shr (I .u32 q) (I .u64 24) = some (I .u32 ((q / 2 ^ 24 : Nat))) := shr_nat .u32 q 24 (by decide)
  refine ⟨_, _, ?_, Fr.lit 1 wf (n := 4) (vs := U (four q)) rfl⟩
  generalize s.push (.cells true (U (four q))) = t at nw ⊢
  generalize ((q / 2 ^ 8 % 256 : Nat) : Int) = Q1 at nw c1
  generalize ((q / 2 ^ 16 % 256 : Nat) : Int) = Q2 at nw c2
  generalize ((q / 2 ^ 24 % 256 : Nat) : Int) = Q3 at nw c3
  generalize ((q % 256 : Nat) : Int) = Q0 at nw c0
  generalize ((q / 2 ^ 8 : Nat) : Int) = P1 at r1 c1
  generalize ((q / 2 ^ 16 : Nat) : Int) = P2 at r2 c2
  generalize ((q / 2 ^ 24 : Nat) : Int) = P3 at r3 c3
  generalize (q : Int) = Q at *
  simp [c0, c1, c2, c3, r1, r2, r3, nw]

def lenSum : List Bs → Nat
  | [] => 0
  | b :: r => b.length + lenSum r
theorem lenSum_flat : ∀ l : List Bs, l.flatten.length = lenSum l
  | [] => rfl
  | b :: r => by simp [lenSum, lenSum_flat r]
theorem lenSum_snoc : ∀ (l : List Bs) (b : Bs), lenSum (l ++ [b]) = lenSum l + b.length
  | [], b => by simp [lenSum]
  | a :: r, b => by simp [lenSum, lenSum_snoc r b]; omega
theorem lenSum_take (l : List Bs) (k : Nat) : lenSum (l.take k) ≤ lenSum l := by
  induction l generalizing k with
  | nil => simp [lenSum]
  | cons a r ih =>
    cases k with
    | zero => simp [lenSum]
    | succ k => have := ih k; simp [lenSum]; omega

theorem concat_run (d : Nat) (wf : s.wf) {ys : List S} {bss : List Bs} (hx : Rd 1 s x ys.length ys) (hox : ∀ c, own x = some c → c < s.size) (hlen : ys.length = bss.length) (hys : ∀ (j : Nat) y b, ys[j]? = some y → bss[j]? = some b → RB s y b ∧ ∀ c, own y = some c → c < s.size)
    (h0 : 0 < lenSum bss) (hT : lenSum bss ≤ 100000) (hl : ys.length ≤ 100) : ∃ z t, R (d + 2) 66 [Z x] s = some (Z z, t) ∧ FB s t z bss.flatten := by
  rw [f66_run]
  unfold f66
  have hll := hx.lens
  -- the sizes
  obtain ⟨j, τ, lp, hj, hτ⟩ := loops_inv (f := f66_l1 (R (d + 1)) 8192) (fun q v u => ∃ k : Nat, q + k = ys.length ∧ v = [Z x, I .i64 (lenSum (bss.take k) : Nat), Z x, I .i64 ys.length, I .i64 k] ∧ u = s)
    (fun j u => j = .exit 0 [Z x, I .i64 (lenSum bss : Nat)] ∧ u = s) (by
    rintro q v u ⟨k, hk, rfl, rfl⟩
    by_cases hkl : k < ys.length
    · left
      have hc : ys[k]? = some ys[k] := List.getElem?_eq_getElem hkl
      have hb : bss[k]? = some (bss[k]'(by omega)) := List.getElem?_eq_getElem (by omega)
      obtain ⟨p, ix, ld⟩ := Rd.at1 hx (i := (k : Int)) rfl hc
      obtain ⟨ry, _⟩ := hys k _ _ hc hb
      have hyl := ry.lenB
      have htk : bss.take (k + 1) = bss.take k ++ [bss[k]'(by omega)] := by rw [List.take_add_one, hb]; rfl
      have h1 := lenSum_take bss (k + 1)
      have hs : lenSum (bss.take (k + 1)) = lenSum (bss.take k) + (bss[k]'(by omega)).length := by rw [htk, lenSum_snoc]
      have c0 : (k : Int) < (ys.length : Int) := by omega
      have w1 : IntKind.i64.wrap ((k : Int) + 1) = ((k + 1 : Nat) : Int) := by rw [wrap_in _ (by omega) (by omega)]; omega
      have wa : IntKind.i64.wrap ((lenSum (bss.take k) : Nat) + ((bss[k]'(by omega)).length : Int)) = ((lenSum (bss.take (k + 1)) : Nat) : Int) := by rw [wrap_in _ (by omega) (by omega)]; omega
      have c1 : ¬ ((lenSum (bss.take (k + 1)) : Nat) : Int) < 0 := by omega
      refine ⟨[Z x, I .i64 (lenSum (bss.take (k + 1)) : Nat), Z x, I .i64 ys.length, I .i64 ((k + 1 : Nat) : Int)], u, q - 1, ?_, by omega, k + 1, by omega, rfl, rfl⟩
      unfold f66_l1
      generalize ((k + 1 : Nat) : Int) = K1 at w1 ⊢
      generalize ((lenSum (bss.take (k + 1)) : Nat) : Int) = S1 at wa c1 ⊢
      generalize ((lenSum (bss.take k) : Nat) : Int) = S0 at wa ⊢
      generalize ((bss[k]'(by omega)).length : Int) = B1 at *
      generalize (k : Int) = K at *
      generalize (ys.length : Int) = L at *
      simp [c0, ix, ld, hyl, wa, c1, w1]
    · right
      have hk' : k = ys.length := by omega
      subst hk'
      rw [hlen, List.take_length]
      refine ⟨.exit 0 [Z x, I .i64 (lenSum bss : Nat)], u, ?_, (fun v hv => by cases hv), rfl, rfl⟩
      unfold f66_l1
      simp) 8192 ys.length [Z x, I .i64 0, Z x, I .i64 ys.length, I .i64 0] s ⟨0, rfl, by simp [lenSum], rfl⟩ (by omega)
  subst hτ; subst hj
  -- a new row
  obtain ⟨TN, hTd⟩ : ∃ TN, TN = lenSum bss := ⟨_, rfl⟩
  rw [← hTd] at lp h0 hT
  obtain ⟨s1, hs1⟩ : ∃ s1, s1 = τ.push (.cells true (zeros TN [.int .u8 0])) := ⟨_, rfl⟩
  have g1 : Gr τ s1 := by rw [hs1]; exact Gr.push wf _
  have hg : R (d + 1) 86 [Z .nils, I .i64 (TN : Nat)] τ = some (Z (.sl τ.size 0 0 (.grown 1)), s1) := by
    rw [f86_run]
    unfold f86
    have c0 : ¬ ((TN : Nat) : Int) < 0 := by omega
    have c1 : (0 : Int) < ((TN : Nat) : Int) := by omega
    have w0 : IntKind.i64.wrap 0 = 0 := rfl
    have wT : IntKind.i64.wrap ((TN : Nat) : Int) = ((TN : Nat) : Int) := wrap_in _ (by omega) (by omega)
    have cap : aCap (Z .nils) = some (I .i64 0) := rfl
    have pc0 : aPieceSl 1 (Z .nils) none (some (I .i64 0)) none = some (Z .nils) := rfl
    have gr : aGrow 1 1 [.int .u8 0] (Z .nils) (I .i64 ((TN : Nat) : Int)) τ = some (Z (.sl τ.size 0 TN (.grown 1)), s1) := by
      simp only [aGrow, Int.toNat_natCast, hs1]
      rw [if_pos ⟨c1, by omega, by decide⟩]
    have pc1 : aPieceSl 1 (Z (.sl τ.size 0 TN (.grown 1))) none (some (I .i64 0)) none = some (Z (.sl τ.size 0 0 (.grown 1))) := by
      unfold aPieceSl
      dsimp only
      rw [if_pos rfl, show (I .i64 0 : T) = I .i64 ((0 : Nat) : Int) from rfl, aBounds_hi (Nat.zero_le _)]
      dsimp only
      rw [if_pos h0]
    generalize ((TN : Nat) : Int) = TT at *
    simp [c0, cap, w0, wT, c1, pc0, gr, pc1]
  have f1 : FB τ s1 (.sl τ.size 0 0 (.grown 1)) [] := by
    refine ⟨g1, ⟨by simp, .inr (.inr ⟨τ.size, zeros TN [.int .u8 0], _, rfl, .inl rfl, by rw [hs1]; exact St.get_push_same _ _, by simp, by simp [U]⟩)⟩, fun c hc => by cases hc; exact ⟨Nat.le_refl _, by rw [hs1]; simp⟩⟩
  obtain ⟨j, σ, lp2, z, rfl, fz⟩ := loops_inv (f := f66_l2 (R (d + 1)) 8192) (fun q v u => ∃ (k : Nat) (z : S), q + k = ys.length ∧ v = [Z z, Z x, I .i64 ys.length, I .i64 k] ∧ FB τ u z (bss.take k).flatten)
    (fun j u => ∃ z, j = .exit 2 [Z z] ∧ FB τ u z bss.flatten) (by
    rintro q v u ⟨k, z, hk, rfl, hf⟩
    by_cases hkl : k < ys.length
    · left
      have hc : ys[k]? = some ys[k] := List.getElem?_eq_getElem hkl
      have hb : bss[k]? = some (bss[k]'(by omega)) := List.getElem?_eq_getElem (by omega)
      obtain ⟨p, ix, ld⟩ := Rd.at1 (hx.gr hox hf.gr) (i := (k : Int)) rfl hc
      obtain ⟨ry, oy⟩ := hys k _ _ hc hb
      have htk : bss.take (k + 1) = bss.take k ++ [bss[k]'(by omega)] := by rw [List.take_add_one, hb]; rfl
      have h1 := lenSum_take bss (k + 1)
      have hs : lenSum (bss.take (k + 1)) = lenSum (bss.take k) + (bss[k]'(by omega)).length := by rw [htk, lenSum_snoc]
      have c0 : (k : Int) < (ys.length : Int) := by omega
      have w1 : IntKind.i64.wrap ((k : Int) + 1) = ((k + 1 : Nat) : Int) := by rw [wrap_in _ (by omega) (by omega)]; omega
      obtain ⟨z', u', ap, hf', _⟩ := FB.app hf (Rd.gr ry oy hf.gr) (by rw [lenSum_flat]; omega)
      refine ⟨[Z z', Z x, I .i64 ys.length, I .i64 ((k + 1 : Nat) : Int)], u', q - 1, ?_, by omega, k + 1, z', by omega, rfl, by rw [htk, List.flatten_append]; simpa using hf'⟩
      unfold f66_l2
      generalize ((k + 1 : Nat) : Int) = K1 at w1 ⊢
      generalize (k : Int) = K at *
      generalize (ys.length : Int) = L at *
      simp [c0, ix, ld, ap, w1]
    · right
      have hk' : k = ys.length := by omega
      subst hk'
      rw [hlen, List.take_length] at hf
      refine ⟨.exit 2 [Z z], u, ?_, (fun v hv => by cases hv), z, rfl, hf⟩
      unfold f66_l2
      simp) 8192 ys.length [Z (.sl τ.size 0 0 (.grown 1)), Z x, I .i64 ys.length, I .i64 0] s1 ⟨0, _, by omega, rfl, by simpa using f1⟩ (by omega)
  refine ⟨z, σ, ?_, fz⟩
  simp [hll, lp, hg, lp2]

theorem wrap_run (d : Nat) (wf : s.wf) (h : RB s x bs) (hox : ∀ c, own x = some c → c < s.size) (hl : bs.length ≤ 8000) : ∃ z t, R (d + 3) 40 [Z x] s = some (Z z, t) ∧ FB s t z (wrapB bs) := by
  rw [f40_run]
  unfold f40
  have hll := h.lenB
  have w0 : IntKind.u64.wrap (bs.length : Int) = (bs.length : Int) := wrap64 _ (by omega)
  obtain ⟨y1, s1, e1, f1⟩ := vput_run (d + 1) wf bs.length (by omega)
  have hvl := vput_len bs.length
  have e2 := sum_run d f1.rd (by omega)
  have hlt := sumB_lt (vput bs.length) 1 (by decide)
  have rx1 : RB s1 x bs := h.gr hox f1.gr
  have e3 := more_run (d + 1) hlt rx1 hl
  obtain ⟨y4, s4, e4, f4⟩ := low_run (d + 1) f1.gr.wf (sumB (sumB 1 (vput bs.length)) bs)
  have g4 := f1.gr.trans f4.gr
  obtain ⟨s5, hs5⟩ : ∃ s5, s5 = s4.push (.cells true [y1, y4, x]) := ⟨_, rfl⟩
  have nw : aNew s4 (nSlice 3 (aFill [.nils, .nils, .nils] [(0, 1, Z y1), (1, 1, Z y4), (2, 1, Z x)])) = some (Z (.sl s4.size 0 3 (.known 3)), s5) := by rw [hs5]; rfl
  have L := Fr.lit 1 g4.wf (n := 3) (vs := [y1, y4, x]) rfl
  rw [← hs5] at L
  have g5 := g4.trans L.gr
  have r1 : RB s5 y1 (vput bs.length) := (f1.rd.gr (fun c hc => (f1.new c hc).2) f4.gr).gr (fun c hc => Nat.lt_of_lt_of_le (f1.new c hc).2 f4.gr.2.1) L.gr
  have r4 : RB s5 y4 (four (sumB (sumB 1 (vput bs.length)) bs)) := f4.rd.gr (fun c hc => (f4.new c hc).2) L.gr
  have rx : RB s5 x bs := h.gr hox g5
  have hpos : 0 < (vput bs.length).length := by unfold vput putN; split <;> simp
  obtain ⟨z, t, e6, f6⟩ := concat_run d L.gr.wf (ys := [y1, y4, x]) (bss := [vput bs.length, four (sumB (sumB 1 (vput bs.length)) bs), bs]) L.rd (fun c hc => (L.new c hc).2) rfl (fun j y b hy hb => by
    have z5 : s4.size ≤ s5.size := L.gr.2.1
    match j with
    | 0 => simp at hy hb; subst hy; subst hb; exact ⟨r1, fun c hc => by have := (f1.new c hc).2; have := f4.gr.2.1; omega⟩
    | 1 => simp at hy hb; subst hy; subst hb; exact ⟨r4, fun c hc => by have := (f4.new c hc).2; omega⟩
    | 2 => simp at hy hb; subst hy; subst hb; exact ⟨rx, fun c hc => by have := hox c hc; have := g5.2.1; omega⟩
    | j + 3 => simp at hy) (by simp [lenSum]; omega) (by simp [lenSum, four]; omega) (by simp)
  have hw : [vput bs.length, four (sumB (sumB 1 (vput bs.length)) bs), bs].flatten = wrapB bs := by simp [wrapB, sumB_append]
  rw [hw] at f6
  refine ⟨z, t, ?_, f6.from g5⟩
  simp only [Nat.add_assoc, Nat.reduceAdd] at e1 e3 e4
  generalize (bs.length : Int) = BL at *
  simp [hll, w0, e1, e2, e3, e4, nw, e6]
end
end Go.Proofs.YtlhbidbdmdcdeaaGreatDoor

/-
  What entries come to. No conditions but those named in each line.
-/
namespace Go.Proofs.YtlhbidbdmdcdeaaGreatDoor
open Go Go.Abs Go.Abs.F
set_option linter.unusedVariables false
section
variable {s0 s t : St} {b mp : Nat} {q : FoS} {x y a : S} {l : List Inf}

theorem begin_run (d : Nat) (wf : s.wf) : ∃ b mp t, R (d + 2) 46 [] s = some (Z (.ptr b 0), t) ∧ HF s t b fs0 .nils mp := by
  rw [f46_run]
  unfold f46
  obtain ⟨s1, hs1⟩ : ∃ s1, s1 = s.push (.map []) := ⟨_, rfl⟩
  have nw1 : aNew s nMap = some (Z (.map s.size), s1) := by rw [hs1]; rfl
  have g1 : Gr s s1 := by rw [hs1]; exact Gr.push wf _
  have m1 : s1.get s.size = some (.map []) := by rw [hs1]; exact St.get_push_same _ _
  obtain ⟨s2, e2, g2⟩ := default_run d g1.wf
  have m2 := g2.get m1 g1.wf
  have hz := g2.wf.lt m2
  obtain ⟨s3, hs3⟩ : ∃ s3, s3 = s2.push (.cells true (cF .nils s.size fs0)) := ⟨_, rfl⟩
  have ag : asAggT (aFill [.nils, .nilm, .int .i64 0, .int .i64 0, .int .i64 0, .int .i64 0, .int .i64 0, .int .i64 0, .int .i64 0, .int .i64 0] [(1, 1, Z (.map s.size)), (2, 6, AP polD)]) = some (.v (.agg (cF .nils s.size fs0))) := rfl
  have nw3 : aNew s2 (nBox (.v (.agg (cF .nils s.size fs0)))) = some (Z (.ptr s2.size 0), s3) := by rw [hs3]; rfl
  have g3 : Gr s2 s3 := by rw [hs3]; exact Gr.push g2.wf _
  refine ⟨s2.size, s.size, s3, ?_, (g1.trans g2).trans g3, (g1.trans g2).2.1, Nat.le_refl _, by rw [hs3]; exact St.get_push_same _ _, g3.get m2 g2.wf, .inl ⟨rfl, rfl⟩, fun c hc => by cases hc⟩
  generalize R (d + 1) = r at *
  simp [nw1, e2, ag, nw3]

theorem clone_run (d : Nat) (wf : s.wf) (h : InS s x l) (hl : l.length ≤ 8000) : ∃ y t, R (d + 1) 76 [Z x] s = some (Z y, t) ∧ Fr 5 s t y l.length (cells cI l) := by
  rw [f76_run]
  unfold f76
  have hrd := h.rd
  have hlt : ∀ c, own x = some c → c < s.size := fun c hc => h.lt wf hc
  have hcl := cells_len (e := 5) cI_len l
  rcases h with ⟨rfl, rfl⟩ | ⟨c, vs, rfl, hb, ht⟩
  · refine ⟨.nils, s, ?_, Fr.nil 5 wf⟩
    have : eqB .l (Z .nils) (Z .nils) = some (B true) := rfl
    simp [this]
  · have f0 := Fr.lit 5 wf (n := 0) (vs := []) rfl
    obtain ⟨y, t, e, f, _⟩ := f0.append (by_ := 40) (by omega) (hrd.gr hlt f0.gr).src hcl (by omega)
    have nw : aNew s (nSlice 0 (aFill [] [])) = some (Z (.sl s.size 0 0 (.known 0)), s.push (.cells true [])) := rfl
    have q1 : eqB .l (Z (.sl c 0 l.length (.grown 5))) (Z .nils) = some (B false) := rfl
    simp only [Nat.zero_add, List.nil_append] at f
    refine ⟨y, t, ?_, f⟩
    simp [q1, nw, e]

theorem infos_run (d : Nat) (h : HF s0 s b q x mp) (hl : q.l.length ≤ 8000) : ∃ y t, R (d + 2) 48 [Z (.ptr b 0)] s = some (Z y, t) ∧ Fr 5 s t y q.l.length (cells cI q.l) := by
  obtain ⟨y, t, e, f⟩ := clone_run d h.gr.wf h.ins hl
  refine ⟨y, t, ?_, f⟩
  rw [f48_run]
  unfold f48
  have l0 : aLoad1 (Z (.ptr b 0)) s.get = some (Z x) := aLoad1_of h.st rfl
  generalize R (d + 1) = r at *
  simp [l0, e]

theorem rule_load {g : Mem} (h : g b = some (.cells true (cF x mp q))) : aLoadN 6 (Z (.ptr b 2)) g = some (AP q.rule) := by
  simp only [aLoadN, h]
  rw [if_pos (by simp [cF])]
  rfl

/-- What Fold tells. -/
def resFo (r : Int × FoS) (y : S) : T := if r.1 = 0 then .tup [.s y, .agg (cP r.2.rule), .s (.int .i64 r.2.v), .s (.int .i64 0)] else .tup [.s .nils, .agg (cP pol0), .s (.int .i64 0), .s (.int .i64 r.1)]

set_option maxHeartbeats 1000000 in
theorem fold_run (d : Nat) (wf : s.wf) {es : List Ent} (ha : RE s a es) (hoa : ∀ c, own a = some c → c < s.size) (hl : es.length ≤ 8000) : ∃ y t, R (d + 11) 28 [Z a] s = some (resFo (foldGo fs0 es) y, t) ∧ Gr s t ∧
    ((foldGo fs0 es).1 = 0 → Fr 5 s t y (foldGo fs0 es).2.l.length (cells cI (foldGo fs0 es).2.l)) := by
  rw [f28_run]
  unfold f28
  obtain ⟨rp, hrp⟩ : ∃ rp, rp = s.size := ⟨_, rfl⟩
  obtain ⟨s1, hs1⟩ : ∃ s1, s1 = s.push (.cells true (cP pol0)) := ⟨_, rfl⟩
  have nw1 : aNew s (nCells [.int .i64 0, .int .i64 0, .int .i64 0, .int .i64 0, .int .i64 0, .int .i64 0]) = some (Z (.ptr rp 0), s1) := by rw [hs1, hrp]; rfl
  have g1 : Gr s s1 := by rw [hs1]; exact Gr.push wf _
  have r1 : s1.get rp = some (.cells true (cP pol0)) := by rw [hs1, hrp]; exact St.get_push_same _ _
  have z1 : rp < s1.size := g1.wf.lt r1
  obtain ⟨b, mp0, s2, e2, h2⟩ := begin_run (d + 8) g1.wf
  simp only [Nat.add_assoc, Nat.reduceAdd] at e2
  have ll := ha.lens
  obtain ⟨j, τ, lp, hj⟩ := loops_inv (f := f28_l1 (R (d + 10)) 8192)
    (fun q v u => ∃ (k : Nat) (qs : FoS) (x : S) (mp : Nat), q + k = es.length ∧ v = [Z (.ptr rp 0), Z (.ptr b 0), Z a, I .i64 ((es.length : Nat) : Int), I .i64 ((k : Nat) : Int)] ∧ HF s1 u b qs x mp ∧ FOk qs ∧ qs.ever.length ≤ k ∧ foldGo qs (es.drop k) = foldGo fs0 es)
    (fun j u => (∃ (qs : FoS) (x : S) (mp : Nat), j = .exit 0 [Z (.ptr rp 0), Z (.ptr b 0)] ∧ HF s1 u b qs x mp ∧ qs.l.length ≤ 8000 ∧ foldGo fs0 es = (0, qs)) ∨ (j = .ret (resFo (foldGo fs0 es) .nils) ∧ (foldGo fs0 es).1 ≠ 0 ∧ Gr s u)) (by
    rintro q v u ⟨k, qs, x, mp, hk, rfl, H, hok, hev, hgo⟩
    by_cases hkl : k < es.length
    · have hc : es[k]? = some es[k] := List.getElem?_eq_getElem hkl
      obtain ⟨e, he⟩ : ∃ e, e = es[k] := ⟨_, rfl⟩
      rw [← he] at hc
      have hdr : es.drop k = e :: es.drop (k + 1) := by rw [List.drop_eq_getElem_cons hkl, he]
      have hau : RE u a es := (ha.gr hoa g1).gr (fun c hc => Nat.lt_of_lt_of_le (hoa c hc) g1.2.1) H.gr
      obtain ⟨p, ix, ld⟩ := hau.atE (n := ((k : Nat) : Int)) rfl hc
      have c0 : ((k : Nat) : Int) < ((es.length : Nat) : Int) := by omega
      have w1 : IntKind.i64.wrap ((k : Int) + 1) = ((k + 1 : Nat) : Int) := by rw [wrap_in _ (by omega) (by omega)]; omega
      -- the entry's own variable
      obtain ⟨u1, hu1⟩ : ∃ u1, u1 = u.push (.cells true (cE ent0)) := ⟨_, rfl⟩
      have nw3 : aNew u (nCells [.int .i64 0, .int .i64 0, .int .i64 0, .int .i64 0, .int .i64 0, .int .i64 0, .int .u32 0, .str []]) = some (Z (.ptr u.size 0), u1) := by rw [hu1]; rfl
      have b1 : u1.get u.size = some (.cells true (cE ent0)) := by rw [hu1]; exact St.get_push_same _ _
      have gu1 : Gr u u1 := by rw [hu1]; exact Gr.push H.gr.wf _
      obtain ⟨u2, hu2⟩ : ∃ u2, u2 = u1.set u.size (.cells true (cE e)) := ⟨_, rfl⟩
      have st2 : aStore 8 (Z (.ptr u.size 0)) (AE e) u1 = some (tt, u2) := by rw [hu2]; exact store8 b1 rfl
      have gu2 : Gr u u2 := by
        rw [hu2]
        exact ⟨St.wf_set gu1.wf (gu1.wf.lt b1) _, by simpa using gu1.2.1, fun c hc => by rw [St.get_set_ne _ _ (by omega)]; exact gu1.2.2 c hc⟩
      have l2 : aLoadN 8 (Z (.ptr u.size 0)) u2.get = some (AE e) := load8 (by rw [hu2]; exact St.get_set_same _ _ _)
      obtain ⟨u3, y, e3, H3⟩ := next_run' d (H.gr' gu2) hok (by omega) e
      rw [hdr] at hgo
      have hgo' : (if asksP qs e = 0 then foldGo (nextP qs e) (es.drop (k + 1)) else (asksP qs e, qs)) = foldGo fs0 es := hgo
      by_cases hz : asksP qs e = 0
      · left
        rw [if_pos hz] at H3 hgo'
        rw [hz] at e3
        refine ⟨[Z (.ptr rp 0), Z (.ptr b 0), Z a, I .i64 ((es.length : Nat) : Int), I .i64 ((k + 1 : Nat) : Int)], u3, q - 1, ?_, by omega, k + 1, nextP qs e, y, mp, by omega, rfl, H3, next_ok hok hz, by have := next_ever (q := qs) (e := e); omega, hgo'⟩
        unfold f28_l1
        clear hgo hgo' hdr
        generalize R (d + 10) = r at *
        generalize ((k + 1 : Nat) : Int) = K1 at *
        generalize ((k : Nat) : Int) = K at *
        generalize ((es.length : Nat) : Int) = LL at *
        generalize u.size = us at *
        simp [c0, ix, ld, nw3, st2, gtt, l2, e3, w1]
      · right
        rw [if_neg hz] at H3 hgo'
        have r3 : u3.get rp = some (.cells true (cP pol0)) := by rw [H3.gr.2.2 rp z1]; exact r1
        have sr : aStore 6 (Z (.ptr rp 0)) (AP pol0) u3 = some (tt, u3.set rp (.cells true (cP pol0))) := store6 r3 rfl
        obtain ⟨u4, hu4⟩ : ∃ u4, u4 = u3.set rp (.cells true (cP pol0)) := ⟨_, rfl⟩
        rw [← hu4] at sr
        have lr : aLoadN 6 (Z (.ptr rp 0)) u4.get = some (AP pol0) := load6 (by rw [hu4]; exact St.get_set_same _ _ _)
        have g04 : Gr s u4 := by
          rw [hu4]
          have h13 := g1.trans H3.gr
          exact ⟨St.wf_set h13.wf (by have := H3.gr.2.1; omega) _, by simpa using h13.2.1, fun c hc => by rw [St.get_set_ne _ _ (by omega)]; exact h13.2.2 c hc⟩
        refine ⟨.ret (resFo (foldGo fs0 es) .nils), u4, ?_, (fun v hv => by cases hv), .inr ⟨rfl, by rw [← hgo']; exact hz, g04⟩⟩
        have hres : resFo (foldGo fs0 es) .nils = .tup [.s .nils, .agg (cP pol0), .s (.int .i64 0), .s (.int .i64 (asksP qs e))] := by
          rw [← hgo']
          exact if_neg hz
        rw [hres]
        unfold f28_l1
        clear hgo hgo' hdr hres
        generalize R (d + 10) = r at *
        generalize ((k + 1 : Nat) : Int) = K1 at *
        generalize ((k : Nat) : Int) = K at *
        generalize ((es.length : Nat) : Int) = LL at *
        generalize u.size = us at *
        generalize asksP qs e = C at *
        simp [c0, ix, ld, nw3, st2, gtt, l2, e3, hz, agg6, sr, lr, rC, rT, retT, allV]
    · right
      have hke : k = es.length := by omega
      have c0 : ¬ ((k : Nat) : Int) < ((es.length : Nat) : Int) := by omega
      rw [List.drop_eq_nil_of_le (by omega)] at hgo
      refine ⟨.exit 0 [Z (.ptr rp 0), Z (.ptr b 0)], u, ?_, (fun v hv => by cases hv), .inl ⟨qs, x, mp, rfl, H, by have := hok.len; omega, hgo.symm⟩⟩
      unfold f28_l1
      simp [c0]) 8192 es.length [Z (.ptr rp 0), Z (.ptr b 0), Z a, I .i64 ((es.length : Nat) : Int), I .i64 0] s2
    ⟨0, fs0, .nils, mp0, by omega, rfl, h2, fs0_ok, Nat.le_refl _, by rw [List.drop_zero]⟩ (by omega)
  rcases hj with ⟨qs, x, mp, rfl, H, hql, hgo⟩ | ⟨rfl, hne, g⟩
  · obtain ⟨y, t, e4, f4⟩ := infos_run (d + 8) H hql
    simp only [Nat.add_assoc, Nat.reduceAdd] at e4
    have H4 := H.gr' f4.gr
    have a1 := rule_load H.st
    have a2 := rule_load H4.st
    have v1 : aLoad1 (Z (.ptr b 8)) τ.get = some (I .i64 qs.v) := aLoad1_of H.st rfl
    have v2 : aLoad1 (Z (.ptr b 8)) t.get = some (I .i64 qs.v) := aLoad1_of H4.st rfl
    have r4 : t.get rp = some (.cells true (cP pol0)) := by rw [H4.gr.2.2 rp z1]; exact r1
    have sr : aStore 6 (Z (.ptr rp 0)) (AP qs.rule) t = some (tt, t.set rp (.cells true (cP qs.rule))) := store6 r4 rfl
    obtain ⟨u4, hu4⟩ : ∃ u4, u4 = t.set rp (.cells true (cP qs.rule)) := ⟨_, rfl⟩
    rw [← hu4] at sr
    have hbr : b ≠ rp := by have := H.hb; omega
    have v3 : aLoad1 (Z (.ptr b 8)) u4.get = some (I .i64 qs.v) := aLoad1_of (by rw [hu4, St.get_set_ne _ _ hbr]; exact H4.st) rfl
    have lr : aLoadN 6 (Z (.ptr rp 0)) u4.get = some (AP qs.rule) := load6 (by rw [hu4]; exact St.get_set_same _ _ _)
    have h14 := g1.trans H4.gr
    have hr4 := h14.wf.lt r4
    have g04 : Gr s u4 := by
      rw [hu4]
      exact ⟨St.wf_set h14.wf hr4 _, by simpa using h14.2.1, fun c hc => by rw [St.get_set_ne _ _ (by omega)]; exact h14.2.2 c hc⟩
    rw [hgo]
    have hres : resFo ((0 : Int), qs) y = .tup [.s y, .agg (cP qs.rule), .s (.int .i64 qs.v), .s (.int .i64 0)] := rfl
    refine ⟨y, u4, ?_, g04, fun _ => ?_⟩
    · rw [hres]
      clear hgo hres
      generalize R (d + 10) = r at *
      generalize ((es.length : Nat) : Int) = LL at *
      simp [nw1, e2, ll, lp, e4, a1, a2, v1, v2, v3, sr, gtt, lr, rC, rT, retT, allV]
    · have hτ : rp < τ.size := by have := H.gr.2.1; omega
      refine ⟨g04, f4.ow.keep fun c hc => ?_, fun c hc => ?_⟩
      · have := (f4.new c hc).1
        rw [hu4, St.get_set_ne _ _ (by omega)]
      · have := f4.new c hc
        have := H.gr.2.1
        have := g1.2.1
        rw [hu4]
        simp only [St.size_set]
        omega
  · refine ⟨.nils, τ, ?_, g, fun h => (hne h).elim⟩
    generalize resFo (foldGo fs0 es) .nils = RF at *
    generalize R (d + 10) = r at *
    generalize ((es.length : Nat) : Int) = LL at *
    simp [nw1, e2, ll, lp]
end
end Go.Proofs.YtlhbidbdmdcdeaaGreatDoor
