/-
  What entry.Get computes, in any store. No conditions but those named in each line.
-/
import Derived.Test.YtlhbidbdmdcdeaaGreatDoorEnt
namespace Go.Proofs.YtlhbidbdmdcdeaaGreatDoor
open Go Go.Abs Go.Abs.F
set_option linter.unusedVariables false

def nxt (bs : Bs) (most at_ : Nat) (bad : Bool) : Nat × Nat × Bool := match vget bs at_ with
  | some (n, e) => (min n most, e, bad || decide (most < n))
  | none => (0, at_, true)

def getFields (bs : Bs) (c : UInt8) : Option (Ent × Bool) :=
  let p := nxt bs 1073741824 1 false
  let e0 : Ent := { ent0 with k := c.toNat, v := (p.1 : Nat) }
  if c.toNat = 1 then
    let i := nxt bs 1073741824 p.2.1 p.2.2
    let t := nxt bs 4 i.2.1 i.2.2
    let f := nxt bs 1099511627776 t.2.1 t.2.2
    let o := nxt bs 1099511627776 f.2.1 f.2.2
    let u := nxt bs 4294967295 o.2.1 o.2.2
    some ({ e0 with i := (i.1 : Nat), t := (t.1 : Nat), f := (f.1 : Nat), o := (o.1 : Nat), u := (u.1 : Nat) }, u.2.2)
  else if c.toNat = 2 then
    let i := nxt bs 1073741824 p.2.1 p.2.2
    some ({ e0 with i := (i.1 : Nat) }, i.2.2)
  else if c.toNat = 4 then
    let m := nxt bs 300 p.2.1 p.2.2
    if m.2.2 = true ∨ bs.length < m.2.1 + m.1 then none else some ({ e0 with x := (bs.drop m.2.1).take m.1 }, m.2.2)
  else some (e0, p.2.2)

def getE (bs : Bs) : Option Ent := match bs with
  | [] => none
  | c :: _ => match getFields bs c with
    | none => none
    | some (e, bad) => if bad = false ∧ putE e = some bs then some e else none

section
variable {s t : St} {x y : S} {bs cs : Bs} {i : Nat}

theorem nxt_le {bs : Bs} {most at_ : Nat} {bad : Bool} : (nxt bs most at_ bad).1 ≤ most := by
  unfold nxt
  split
  · exact Nat.min_le_right _ _
  · exact Nat.zero_le _
theorem nxt_at {bs : Bs} {most at_ : Nat} {bad : Bool} (h : at_ ≤ bs.length) : (nxt bs most at_ bad).2.1 ≤ bs.length := by
  unfold nxt
  split
  · rename_i n e he
    exact (vget_lt he).2
  · exact h

theorem beq_run (d : Nat) (h : RB s x bs) (k : RB s y cs) : R (d + 1) 55 [Z x, Z y] s = some (B (decide (bs = cs)), s) := by
  rw [f55_run]
  unfold f55
  simp [h.str, k.str]

/-- While the numbers are read. -/
structure Cur (s0 s : St) (x : S) (bs : Bs) (at_ : Nat) (bad : Bool) : Prop where
  gr : Gr s0 s
  ge : s0.size + 4 ≤ s.size
  c1 : s.get s0.size = some (.cells true [x])
  c2 : s.get (s0.size + 1) = some (.cells true (cE ent0))
  c4 : s.get (s0.size + 2) = some (.cells true [.int .i64 (at_ : Nat)])
  c5 : s.get (s0.size + 3) = some (.cells true [.bool bad])
  le : at_ ≤ bs.length

theorem Cur.set {s0 : St} {at_ : Nat} {bad : Bool} (h : Cur s0 s x bs at_ bad) {b : Nat} (hb : s0.size + 4 ≤ b) (hb2 : b < s.size) (v : Blk) : Cur s0 (s.set b v) x bs at_ bad :=
  ⟨⟨St.wf_set h.gr.wf hb2 _, by simpa using h.gr.2.1, fun c hc => by rw [St.get_set_ne _ _ (by omega)]; exact h.gr.2.2 c hc⟩, by simpa using h.ge, by rw [St.get_set_ne _ _ (by omega)]; exact h.c1, by rw [St.get_set_ne _ _ (by omega)]; exact h.c2,
    by rw [St.get_set_ne _ _ (by omega)]; exact h.c4, by rw [St.get_set_ne _ _ (by omega)]; exact h.c5, h.le⟩

theorem Cur.gr' {s0 : St} {at_ : Nat} {bad : Bool} (h : Cur s0 s x bs at_ bad) (g : Gr s t) : Cur s0 t x bs at_ bad := by
  have := h.ge
  exact ⟨h.gr.trans g, Nat.le_trans h.ge g.2.1, by rw [g.2.2 _ (by omega)]; exact h.c1, by rw [g.2.2 _ (by omega)]; exact h.c2, by rw [g.2.2 _ (by omega)]; exact h.c4, by rw [g.2.2 _ (by omega)]; exact h.c5, h.le⟩

theorem next_run (d : Nat) {s0 : St} {at_ : Nat} {bad : Bool} (h : Cur s0 s x bs at_ bad) (hx : RB s0 x bs) (hox : ∀ c, own x = some c → c < s0.size) (hl : bs.length ≤ 8000) (most : Nat) (hm : most < 2 ^ 63) :
    ∃ t, R (d + 2) 53 [I .u64 (most : Nat), Z (.ptr s0.size 0), Z (.ptr (s0.size + 2) 0), Z (.ptr (s0.size + 3) 0)] s = some (I .i64 ((nxt bs most at_ bad).1 : Nat), t) ∧ Cur s0 t x bs (nxt bs most at_ bad).2.1 (nxt bs most at_ bad).2.2 ∧ t.size = s.size ∧
      ∀ b, b ≠ s0.size + 2 → b ≠ s0.size + 3 → t.get b = s.get b := by
  rw [f53_run]
  unfold f53
  have hge := h.ge
  have hle := h.le
  have rx : RB s x bs := hx.gr hox h.gr
  have l1 : aLoad1 (Z (.ptr s0.size 0)) s.get = some (Z x) := aLoad1_of h.c1 rfl
  have l4 : aLoad1 (Z (.ptr (s0.size + 2) 0)) s.get = some (I .i64 (at_ : Nat)) := aLoad1_of h.c4 rfl
  have l5 : aLoad1 (Z (.ptr (s0.size + 3) 0)) s.get = some (B bad) := aLoad1_of h.c5 rfl
  have e1 := vget_run d rx (by omega) (at_ := at_) (by omega)
  obtain ⟨N, hN⟩ : ∃ N, N = nxt bs most at_ bad := ⟨_, rfl⟩
  rw [← hN]
  obtain ⟨t1, ht1⟩ : ∃ t1, t1 = s.set (s0.size + 3) (.cells true [.bool N.2.2]) := ⟨_, rfl⟩
  have st1 : aStore 1 (Z (.ptr (s0.size + 3) 0)) (B N.2.2) s = some (tt, t1) := by rw [ht1]; exact aStore1_of h.c5 (by simp)
  have c4' : t1.get (s0.size + 2) = some (.cells true [.int .i64 (at_ : Nat)]) := by rw [ht1, St.get_set_ne _ _ (by omega)]; exact h.c4
  obtain ⟨t2, ht2⟩ : ∃ t2, t2 = t1.set (s0.size + 2) (.cells true [.int .i64 (N.2.1 : Nat)]) := ⟨_, rfl⟩
  have st2 : aStore 1 (Z (.ptr (s0.size + 2) 0)) (I .i64 (N.2.1 : Nat)) t1 = some (tt, t2) := by rw [ht2]; exact aStore1_of c4' (by simp)
  have z1 : t1.size = s.size := by rw [ht1]; rfl
  have z2 : t2.size = s.size := by rw [ht2]; exact z1
  have w1 : t1.wf := by rw [ht1]; exact St.wf_set h.gr.wf (by omega) _
  have w2 : t2.wf := by rw [ht2]; exact St.wf_set w1 (by omega) _
  have keep : ∀ b, b ≠ s0.size + 2 → b ≠ s0.size + 3 → t2.get b = s.get b := fun b h1 h2 => by rw [ht2, St.get_set_ne _ _ h1, ht1, St.get_set_ne _ _ h2]
  have hN1 : N.2.1 ≤ bs.length := by rw [hN]; exact nxt_at hle
  have cur : Cur s0 t2 x bs N.2.1 N.2.2 := ⟨⟨w2, by rw [z2]; exact h.gr.2.1, fun b hb => by rw [keep b (by omega) (by omega)]; exact h.gr.2.2 b hb⟩, by omega, by rw [keep _ (by omega) (by omega)]; exact h.c1, by rw [keep _ (by omega) (by omega)]; exact h.c2,
    by rw [ht2]; exact St.get_set_same _ _ _, by rw [ht2, St.get_set_ne _ _ (by omega), ht1]; exact St.get_set_same _ _ _, hN1⟩
  refine ⟨t2, ?_, cur, z2, keep⟩
  cases hv : vget bs at_ with
  | none =>
    have hn : N = (0, at_, true) := by rw [hN]; unfold nxt; rw [hv]
    rw [hv] at e1
    simp only [vres, if_pos hle] at e1
    rw [hn] at st1 st2 ⊢
    have hmin : min (0 : Int) ((most : Nat) : Int) = 0 := by omega
    have w0 : IntKind.i64.wrap 0 = 0 := rfl
    cases bad with
    | true => simp [l1, l4, e1, aExtract, l5, gtt, st1, st2, hmin, w0]
    | false => simp [l1, l4, e1, aExtract, l5, gtt, st1, st2, hmin, w0]
  | some p =>
    obtain ⟨n, e⟩ := p
    have hn : N = (min n most, e, bad || decide (most < n)) := by rw [hN]; unfold nxt; rw [hv]
    rw [hv] at e1
    simp only [vres] at e1
    rw [hn] at st1 st2 ⊢
    have hmin : min ((n : Nat) : Int) ((most : Nat) : Int) = ((min n most : Nat) : Int) := by omega
    have wm : IntKind.i64.wrap ((min n most : Nat) : Int) = ((min n most : Nat) : Int) := wrap_in _ (by omega) (by omega)
    have cm : decide (((most : Nat) : Int) < ((n : Nat) : Int)) = decide (most < n) := decide_eq_decide.2 (by omega)
    generalize ((min n most : Nat) : Int) = M at *
    generalize ((n : Nat) : Int) = NN at *
    generalize ((most : Nat) : Int) = MM at *
    generalize decide (most < n) = dd at *
    cases bad with
    | true => simp [l1, l4, e1, aExtract, l5, gtt, st2, hmin, wm] at st1 ⊢; simp [st1, st2]
    | false => simp [l1, l4, e1, aExtract, l5, gtt, st2, hmin, wm, cm] at st1 ⊢; simp [st1, st2]

/-- What Get does last. -/
noncomputable def getTail (callf : CallF) (v42 : List T) (s43 : St) : Option (T × St) :=
  bd (aLoadN 8 (v42.getD 3 .any) s43.get) fun t71 =>
  bd2 (callf 31 [t71] s43) fun t72 s46 =>
  bd (aExtract t72 0) fun t73 =>
  bd (aExtract t72 1) fun t74 =>
  bd (aLoad1 (v42.getD 2 .any) s46.get) fun t75 =>
  bd (gT (gd t75 false) (some t74)) fun t77 =>
  bd (gT (gd t75 false) (aBin .neq t77 (I .i64 0))) fun t78 =>
  bd (aPick t75 (B true) t78) fun t79 =>
  bd (gT (gd t79 false) (some t73)) fun t81 =>
  bd (gT (gd t79 false) (aLoad1 (v42.getD 0 .any) s46.get)) fun t82 =>
  bd2 (gS (gd t79 false) s46 (callf 55 [t81, t82] s46)) fun t83 s47 =>
  bd (gT (gd t79 false) (aUn .not t83)) fun t84 =>
  bd (aPick t79 (B true) t84) fun t85 =>
  br t85 (bd (asAggT (aFill [.int .i64 0, .int .i64 0, .int .i64 0, .int .i64 0, .int .i64 0, .int .i64 0, .int .u32 0, .str []] [])) fun t86 =>
  bd2 (aStore 8 (v42.getD 1 .any) t86 s47) fun _ s48 =>
  bd (rC (aLoadN 8 (v42.getD 1 .any) s48.get) (rT (I .i64 2) (some []))) fun l49 => bd (retT l49) fun r50 =>
  some (r50, s48))
  (bd (aLoadN 8 (v42.getD 3 .any) s47.get) fun t87 =>
  bd2 (aStore 8 (v42.getD 1 .any) t87 s47) fun _ s51 =>
  bd (rC (aLoadN 8 (v42.getD 1 .any) s51.get) (rT (I .i64 0) (some []))) fun l52 => bd (retT l52) fun r53 =>
  some (r53, s51))

abbrev resE (o : Option Ent) : T := match o with
  | some e => .tup [.agg (cE e), .s (.int .i64 0)]
  | none => .tup [.agg (cE ent0), .s (.int .i64 2)]

theorem tail_run (d : Nat) {s0 : St} {at_ : Nat} {bad : Bool} {e : Ent} (h : Cur s0 s x bs at_ bad) (hx : RB s0 x bs) (hox : ∀ c, own x = some c → c < s0.size) (hz : s.size = s0.size + 5) (he : s.get (s0.size + 4) = some (.cells true (cE e))) (hw : EWf e) :
    ∃ τ, getTail (R (d + 9)) [Z (.ptr s0.size 0), Z (.ptr (s0.size + 1) 0), Z (.ptr (s0.size + 3) 0), Z (.ptr (s0.size + 4) 0)] s = some (resE (if bad = false ∧ putE e = some bs then some e else none), τ) ∧ Gr s0 τ := by
  have l8 := load8 (g := s.get) he
  unfold getTail
  -- whatever Put says
  have fin : ∀ u, Gr s u → aLoad1 (Z (.ptr (s0.size + 3) 0)) u.get = some (B bad) ∧ aLoad1 (Z (.ptr s0.size 0)) u.get = some (Z x) ∧ RB u x bs ∧ aLoadN 8 (Z (.ptr (s0.size + 4) 0)) u.get = some (AE e) ∧
      (∀ e', aStore 8 (Z (.ptr (s0.size + 1) 0)) (AE e') u = some (tt, u.set (s0.size + 1) (.cells true (cE e'))) ∧ aLoadN 8 (Z (.ptr (s0.size + 1) 0)) (u.set (s0.size + 1) (.cells true (cE e'))).get = some (AE e') ∧ Gr s0 (u.set (s0.size + 1) (.cells true (cE e')))) := fun u g => by
    have h' := h.gr' g
    have he' : u.get (s0.size + 4) = some (.cells true (cE e)) := by rw [g.2.2 _ (by omega)]; exact he
    refine ⟨aLoad1_of h'.c5 rfl, aLoad1_of h'.c1 rfl, hx.gr hox h'.gr, load8 he', fun e' => ⟨store8 h'.c2 rfl, load8 (St.get_set_same _ _ _), ⟨St.wf_set h'.gr.wf (by have := h'.ge; omega) _, by simpa using h'.gr.2.1, fun b hb => by rw [St.get_set_ne _ _ (by omega)]; exact h'.gr.2.2 b hb⟩⟩⟩
  cases hm : mayE e with
  | false =>
    obtain ⟨u, eu, gu⟩ := put_bad d h.gr.wf hm
    obtain ⟨f1, f2, f3, f4, f5⟩ := fin u gu
    obtain ⟨q1, q2, q3⟩ := f5 ent0
    have hp : ¬ (bad = false ∧ putE e = some bs) := fun hh => by simp [putE, hm] at hh
    rw [if_neg hp]
    refine ⟨_, ?_, q3⟩
    generalize u.set (s0.size + 1) (.cells true (cE ent0)) = u2 at *
    generalize R (d + 9) = r at *
    cases bad with
    | true => simp [l8, eu, aExtract, f1, gtt, agg8, q1, q2, rC, rT, retT, allV]
    | false => simp [l8, eu, aExtract, f1, gtt, agg8, q1, q2, rC, rT, retT, allV]
  | true =>
    obtain ⟨y, u, eu, fu⟩ := put_run d h.gr.wf hm hw
    obtain ⟨f1, f2, f3, f4, f5⟩ := fin u fu.gr
    have eq := beq_run (d + 8) fu.rd f3
    have hput : putE e = some (putB e) := by simp [putE, hm]
    simp only [Nat.add_assoc, Nat.reduceAdd] at eq
    cases bad with
    | true =>
      obtain ⟨q1, q2, q3⟩ := f5 ent0
      have hp : ¬ (true = false ∧ putE e = some bs) := fun hh => by simp at hh
      rw [if_neg hp]
      refine ⟨_, ?_, q3⟩
      generalize u.set (s0.size + 1) (.cells true (cE ent0)) = u2 at *
      generalize R (d + 9) = r at *
      simp [l8, eu, aExtract, f1, gtt, agg8, q1, q2, rC, rT, retT, allV]
    | false =>
      by_cases hb : putB e = bs
      · obtain ⟨q1, q2, q3⟩ := f5 e
        rw [if_pos ⟨rfl, by rw [hput, hb]⟩]
        rw [decide_eq_true hb] at eq
        refine ⟨_, ?_, q3⟩
        generalize u.set (s0.size + 1) (.cells true (cE e)) = u2 at *
        generalize R (d + 9) = r at *
        simp [l8, eu, aExtract, f1, f2, f4, eq, q1, q2, rC, rT, retT, allV]
      · obtain ⟨q1, q2, q3⟩ := f5 ent0
        have hp : ¬ (false = false ∧ putE e = some bs) := fun hh => by
          rw [hput] at hh
          exact hb (by simpa using hh.2)
        rw [if_neg hp]
        rw [decide_eq_false hb] at eq
        refine ⟨_, ?_, q3⟩
        generalize u.set (s0.size + 1) (.cells true (cE ent0)) = u2 at *
        generalize R (d + 9) = r at *
        simp [l8, eu, aExtract, f1, f2, eq, agg8, q1, q2, rC, rT, retT, allV]

theorem dyn_clo {callf : CallF} {f a b c : Nat} {args : List T} {σ : St} (h : callable Tryz.prog f = true) : dyn Tryz.prog callf (Z (.clo f [(a, 0), (b, 0), (c, 0)])) args σ = callf f (args ++ [Z (.ptr a 0), Z (.ptr b 0), Z (.ptr c 0)]) σ := by
  simp [dyn, h, capT]

theorem set_field {e : Ent} : setRange (cE e) 2 [.int .i64 i] = cE { e with i := i } ∧ setRange (cE e) 3 [.int .i64 i] = cE { e with t := i } ∧ setRange (cE e) 4 [.int .i64 i] = cE { e with f := i } ∧ setRange (cE e) 5 [.int .i64 i] = cE { e with o := i } ∧
    setRange (cE e) 6 [.int .u32 i] = cE { e with u := i } ∧ setRange (cE e) 7 [.str bs] = cE { e with x := bs } := ⟨rfl, rfl, rfl, rfl, rfl, rfl⟩

theorem get_run (d : Nat) (wf : s.wf) (hx : RB s x bs) (hox : ∀ c, own x = some c → c < s.size) (hl : bs.length ≤ 8000) : ∃ τ, R (d + 10) 33 [Z x] s = some (resE (getE bs), τ) ∧ Gr s τ := by
  rw [f33_run]
  unfold f33
  obtain ⟨n, hn⟩ : ∃ n, n = s.size := ⟨_, rfl⟩
  obtain ⟨s1, hs1⟩ : ∃ s1, s1 = s.push (.cells true [x]) := ⟨_, rfl⟩
  have nw1 : aNew s (nBox (Z x)) = some (Z (.ptr n 0), s1) := by rw [hs1, hn]; rfl
  have g1 : Gr s s1 := by rw [hs1]; exact Gr.push wf _
  have z1 : s1.size = n + 1 := by rw [hs1, hn]; rfl
  have b1 : s1.get n = some (.cells true [x]) := by rw [hs1, hn]; exact St.get_push_same _ _
  obtain ⟨s2, hs2⟩ : ∃ s2, s2 = s1.push (.cells true (cE ent0)) := ⟨_, rfl⟩
  have nw2 : aNew s1 (nCells [.int .i64 0, .int .i64 0, .int .i64 0, .int .i64 0, .int .i64 0, .int .i64 0, .int .u32 0, .str []]) = some (Z (.ptr (n + 1) 0), s2) := by rw [hs2, ← z1]; rfl
  have g2 : Gr s1 s2 := by rw [hs2]; exact Gr.push g1.wf _
  have z2 : s2.size = n + 2 := by rw [hs2]; simp [z1]
  have b2 : s2.get (n + 1) = some (.cells true (cE ent0)) := by rw [hs2, ← z1]; exact St.get_push_same _ _
  have b1' : s2.get n = some (.cells true [x]) := by rw [g2.2.2 n (by omega)]; exact b1
  have ld1 : aLoad1 (Z (.ptr n 0)) s2.get = some (Z x) := aLoad1_of b1' rfl
  have hlen := hx.lenB
  cases hbs : bs with
  | nil =>
    rw [hbs] at hlen
    have st := store8 (e := ent0) b2 rfl
    have ld := load8 (g := (s2.set (n + 1) (.cells true (cE ent0))).get) (i := n + 1) (e := ent0) (St.get_set_same _ _ _)
    refine ⟨s2.set (n + 1) (.cells true (cE ent0)), ?_, ⟨St.wf_set g2.wf (by omega) _, by simp; omega, fun b hb => by rw [St.get_set_ne _ _ (by omega), g2.2.2 b (by omega), g1.2.2 b hb]⟩⟩
    generalize s2.set (n + 1) (.cells true (cE ent0)) = s3 at *
    simp [nw1, nw2, ld1, hlen, agg8, st, ld, rC, rT, retT, allV, getE]
  | cons c0 rest =>
    have hpos : 0 < bs.length := by rw [hbs]; simp
    obtain ⟨s6, hs6⟩ : ∃ s6, s6 = s2.push (.cells true [.int .i64 0]) := ⟨_, rfl⟩
    have nw6 : aNew s2 (nCells [.int .i64 0]) = some (Z (.ptr (n + 2) 0), s6) := by rw [hs6, ← z2]; rfl
    have g6 : Gr s2 s6 := by rw [hs6]; exact Gr.push g2.wf _
    have z6 : s6.size = n + 3 := by rw [hs6]; simp [z2]
    have b6 : s6.get (n + 2) = some (.cells true [.int .i64 0]) := by rw [hs6, ← z2]; exact St.get_push_same _ _
    obtain ⟨s7, hs7⟩ : ∃ s7, s7 = s6.push (.cells true [.bool false]) := ⟨_, rfl⟩
    have nw7 : aNew s6 (nCells [.bool false]) = some (Z (.ptr (n + 3) 0), s7) := by rw [hs7, ← z6]; rfl
    have g7 : Gr s6 s7 := by rw [hs7]; exact Gr.push g6.wf _
    have z7 : s7.size = n + 4 := by rw [hs7]; simp [z6]
    have b7 : s7.get (n + 3) = some (.cells true [.bool false]) := by rw [hs7, ← z6]; exact St.get_push_same _ _
    have b6' : s7.get (n + 2) = some (.cells true [.int .i64 0]) := by rw [g7.2.2 _ (by omega)]; exact b6
    obtain ⟨s8, hs8⟩ : ∃ s8, s8 = s7.set (n + 2) (.cells true [.int .i64 1]) := ⟨_, rfl⟩
    have st8 : aStore 1 (Z (.ptr (n + 2) 0)) (I .i64 1) s7 = some (tt, s8) := by rw [hs8]; exact aStore1_of b6' (by simp)
    have b7' : s8.get (n + 3) = some (.cells true [.bool false]) := by rw [hs8, St.get_set_ne _ _ (by omega)]; exact b7
    obtain ⟨s9, hs9⟩ : ∃ s9, s9 = s8.set (n + 3) (.cells true [.bool false]) := ⟨_, rfl⟩
    have st9 : aStore 1 (Z (.ptr (n + 3) 0)) (B false) s8 = some (tt, s9) := by rw [hs9]; exact aStore1_of b7' (by simp)
    have z9 : s9.size = n + 4 := by rw [hs9, hs8]; simpa using z7
    have wf8 : s8.wf := by rw [hs8]; exact St.wf_set g7.wf (by omega) _
    have wf9 : s9.wf := by rw [hs9]; exact St.wf_set wf8 (by rw [hs8]; simp [z7]) _
    have old9 : ∀ b, b < n + 2 → s9.get b = s2.get b := fun b hb => by rw [hs9, St.get_set_ne _ _ (by omega), hs8, St.get_set_ne _ _ (by omega), g7.2.2 b (by omega), g6.2.2 b (by omega)]
    have cur9 : Cur s s9 x bs 1 false := by
      refine ⟨⟨wf9, by omega, fun b hb => by rw [old9 b (by omega), g2.2.2 b (by omega), g1.2.2 b hb]⟩, by omega, by rw [← hn, old9 _ (by omega)]; exact b1', by rw [← hn, old9 _ (by omega)]; exact b2, ?_, by rw [← hn, hs9]; exact St.get_set_same _ _ _, by omega⟩
      rw [← hn, hs9, St.get_set_ne _ _ (by omega), hs8]
      exact St.get_set_same _ _ _
    have ld9 : aLoad1 (Z (.ptr n 0)) s9.get = some (Z x) := by rw [hn]; exact aLoad1_of cur9.c1 rfl
    have rx9 : RB s9 x bs := hx.gr hox cur9.gr
    have hc0 : bs[0]? = some c0 := by rw [hbs]; rfl
    obtain ⟨p0, ix0, lp0⟩ := RB.atB rx9 (n := 0) (j := 0) rfl hc0
    have clo : aClo 53 [Z (.ptr n 0), Z (.ptr (n + 2) 0), Z (.ptr (n + 3) 0)] [] = some (Z (.clo 53 [(n, 0), (n + 2, 0), (n + 3, 0)])) := rfl
    have hcal : callable Tryz.prog 53 = true := by kernel_rfl
    have dy : ∀ (r : CallF) (m : Int) (u : St), dyn Tryz.prog r (Z (.clo 53 [(n, 0), (n + 2, 0), (n + 3, 0)])) [I .u64 m] u = r 53 [I .u64 m, Z (.ptr n 0), Z (.ptr (n + 2) 0), Z (.ptr (n + 3) 0)] u := fun r m u => dyn_clo hcal
    have nxr : ∀ (u : St) (a : Nat) (bad : Bool) (most : Nat), Cur s u x bs a bad → most < 2 ^ 63 → ∃ t, R (d + 9) 53 [I .u64 (most : Nat), Z (.ptr n 0), Z (.ptr (n + 2) 0), Z (.ptr (n + 3) 0)] u = some (I .i64 ((nxt bs most a bad).1 : Nat), t) ∧ Cur s t x bs (nxt bs most a bad).2.1 (nxt bs most a bad).2.2 ∧ t.size = u.size ∧
        ∀ b, b ≠ n + 2 → b ≠ n + 3 → t.get b = u.get b := fun u a bad most hc hm => by
      have := next_run (d + 7) hc hx hox hl most hm
      rw [← hn] at this
      exact this
    obtain ⟨s10, e10, cur10, z10, k10⟩ := nxr s9 1 false 1073741824 cur9 (by decide)
    obtain ⟨P, hP⟩ : ∃ P, P = nxt bs 1073741824 1 false := ⟨_, rfl⟩
    rw [← hP] at e10 cur10
    obtain ⟨s11, hs11⟩ : ∃ s11, s11 = s10.push (.cells true (cE ent0)) := ⟨_, rfl⟩
    have nw11 : aNew s10 (nCells [.int .i64 0, .int .i64 0, .int .i64 0, .int .i64 0, .int .i64 0, .int .i64 0, .int .u32 0, .str []]) = some (Z (.ptr (n + 4) 0), s11) := by rw [hs11, show n + 4 = s10.size by omega]; rfl
    have g11 : Gr s10 s11 := by rw [hs11]; exact Gr.push cur10.gr.wf _
    have z11 : s11.size = n + 5 := by rw [hs11]; simp; omega
    have b11 : s11.get (n + 4) = some (.cells true (cE ent0)) := by rw [hs11, show n + 4 = s10.size by omega]; exact St.get_push_same _ _
    obtain ⟨e0, he0⟩ : ∃ e0 : Ent, e0 = { ent0 with k := c0.toNat, v := (P.1 : Nat) } := ⟨_, rfl⟩
    have ag0 : asAggT (aFill [.int .i64 0, .int .i64 0, .int .i64 0, .int .i64 0, .int .i64 0, .int .i64 0, .int .u32 0, .str []] [(0, 1, I .i64 (c0.toNat : Int)), (1, 1, I .i64 ((P.1 : Nat) : Int))]) = some (AE e0) := by rw [he0]; rfl
    obtain ⟨s12, hs12⟩ : ∃ s12, s12 = s11.set (n + 4) (.cells true (cE e0)) := ⟨_, rfl⟩
    have st12 := store8 (e := e0) b11 rfl
    rw [← hs12] at st12
    have cur12 : Cur s s12 x bs P.2.1 P.2.2 := by rw [hs12]; exact (cur10.gr' g11).set (by omega) (by omega) _
    have z12 : s12.size = n + 5 := by rw [hs12]; simpa using z11
    have b12 : s12.get (n + 4) = some (.cells true (cE e0)) := by rw [hs12]; exact St.get_set_same _ _ _
    -- the looks at what was read before
    have hupd : ∀ (q : T) (v : S), aLoad1 q s9.get = some (Z v) → (∀ b o, q = Z (.ptr b o) → b < s.size ∨ b = n) → aLoad1 q (updM s10.get s10.size (.cells true [.int .i64 0, .int .i64 0, .int .i64 0, .int .i64 0, .int .i64 0, .int .i64 0, .int .u32 0, .str []])) = aLoad1 q s9.get := by
      intro q v hq hb
      cases q with
      | any => cases hq
      | tup _ => cases hq
      | v w => cases w with
        | agg _ => cases hq
        | s w => cases w with
          | ptr b o =>
            have hb' := hb b o rfl
            have e1 : updM s10.get s10.size (.cells true [.int .i64 0, .int .i64 0, .int .i64 0, .int .i64 0, .int .i64 0, .int .i64 0, .int .u32 0, .str []]) b = s9.get b := by
              rw [updM_ne _ _ (by omega)]
              exact k10 b (by omega) (by omega)
            simp only [aLoad1, e1]
          | _ => cases hq
    have ck1 := hupd (Z (.ptr n 0)) x ld9 (fun b o e => by cases e; exact .inr rfl)
    have ck2 := hupd p0 (.int .u8 c0.toNat) lp0 (fun b o e => by
      subst e
      rcases rx9.rd with ⟨h0, _⟩ | ⟨c, o', cap, w, rows, rfl, _⟩
      · omega
      · have h2 := hox c rfl
        simp only [aIndexSl] at ix0
        split at ix0
        · cases ix0; exact .inl h2
        · cases ix0)
    have hkind : aLoad1 (Z (.ptr (n + 4) 0)) s12.get = some (I .i64 (c0.toNat : Int)) := aLoad1_of b12 (by rw [he0]; rfl)
    have w0 : IntKind.i64.wrap (c0.toNat : Int) = (c0.toNat : Int) := wrap_in _ (by have := c0.toNat_lt; omega) (by have := c0.toNat_lt; omega)
    have hne : ¬ ((bs.length : Int) = 0) := by omega
    have hget : getE bs = match getFields bs c0 with
      | none => none
      | some (e, bad) => if bad = false ∧ putE e = some bs then some e else none := by rw [hbs]; rfl
    rw [← hbs, hget]
    have nxq : ∀ (u : St) (a : Nat) (bad : Bool) (e : Ent) (most : Nat), (Cur s u x bs a bad ∧ u.size = n + 5 ∧ u.get (n + 4) = some (.cells true (cE e))) → most < 2 ^ 63 → ∃ t, R (d + 9) 53 [I .u64 (most : Nat), Z (.ptr n 0), Z (.ptr (n + 2) 0), Z (.ptr (n + 3) 0)] u = some (I .i64 ((nxt bs most a bad).1 : Nat), t) ∧
        (Cur s t x bs (nxt bs most a bad).2.1 (nxt bs most a bad).2.2 ∧ t.size = n + 5 ∧ t.get (n + 4) = some (.cells true (cE e))) := fun u a bad e most hq hm => by
      obtain ⟨t, e1, c1, z, k⟩ := nxr u a bad most hq.1 hm
      exact ⟨t, e1, c1, by rw [z]; exact hq.2.1, by rw [k _ (by omega) (by omega)]; exact hq.2.2⟩
    have stq : ∀ (u : St) (a : Nat) (bad : Bool) (e e' : Ent) (off : Nat) (val : S), (Cur s u x bs a bad ∧ u.size = n + 5 ∧ u.get (n + 4) = some (.cells true (cE e))) → setRange (cE e) off [val] = cE e' → off < 8 → ∃ t, aStore 1 (Z (.ptr (n + 4) off)) (Z val) u = some (tt, t) ∧
        (Cur s t x bs a bad ∧ t.size = n + 5 ∧ t.get (n + 4) = some (.cells true (cE e'))) := fun u a bad e e' off val hq hs ho => by
      have st := aStore1_of (x := val) hq.2.2 (by simpa [cE] using ho)
      rw [hs] at st
      exact ⟨_, st, hq.1.set (by omega) (by have := hq.2.1; omega) _, by simpa using hq.2.1, St.get_set_same _ _ _⟩
    have finq : ∀ (u : St) (a : Nat) (bad : Bool) (e : Ent), (Cur s u x bs a bad ∧ u.size = n + 5 ∧ u.get (n + 4) = some (.cells true (cE e))) → EWf e → ∃ τ, getTail (R (d + 9)) [Z (.ptr n 0), Z (.ptr (n + 1) 0), Z (.ptr (n + 3) 0), Z (.ptr (n + 4) 0)] u = some (resE (if bad = false ∧ putE e = some bs then some e else none), τ) ∧ Gr s τ := fun u a bad e hq hw => by
      have := tail_run d hq.1 hx hox (by rw [← hn]; exact hq.2.1) (by rw [← hn]; exact hq.2.2) hw
      rw [← hn] at this
      exact this
    have q12 : Cur s s12 x bs P.2.1 P.2.2 ∧ s12.size = n + 5 ∧ s12.get (n + 4) = some (.cells true (cE e0)) := ⟨cur12, z12, b12⟩
    have hw0 : EWf e0 := by rw [he0]; exact ⟨Int.le_refl 0, (by decide : (0 : Int) < 4294967296)⟩
    obtain ⟨C, hC⟩ : ∃ C, C = (c0.toNat : Int) := ⟨_, rfl⟩
    rw [← hC] at lp0 ag0 hkind w0
    simp only [aLenSl] at hlen
    have hlen' := hx.lenB
    have hnd : ¬ bs = [] := fun e => by rw [e] at hpos; simp at hpos
    by_cases k1 : c0.toNat = 1
    · have d1 : decide (C = 1) = true := decide_eq_true (by omega)
      obtain ⟨s13, e13, q13⟩ := nxq s12 _ _ _ 1073741824 q12 (by decide)
      obtain ⟨I1, hI1⟩ : ∃ I1, I1 = nxt bs 1073741824 P.2.1 P.2.2 := ⟨_, rfl⟩
      rw [← hI1] at e13 q13
      obtain ⟨s14, e14, q14⟩ := nxq s13 _ _ _ 4 q13 (by decide)
      obtain ⟨T1, hT1⟩ : ∃ T1, T1 = nxt bs 4 I1.2.1 I1.2.2 := ⟨_, rfl⟩
      rw [← hT1] at e14 q14
      obtain ⟨s15, e15, q15⟩ := stq s14 _ _ _ { e0 with i := (I1.1 : Nat) } 2 (.int .i64 (I1.1 : Nat)) q14 rfl (by omega)
      obtain ⟨s16, e16, q16⟩ := stq s15 _ _ _ { e0 with i := (I1.1 : Nat), t := (T1.1 : Nat) } 3 (.int .i64 (T1.1 : Nat)) q15 rfl (by omega)
      obtain ⟨s17, e17, q17⟩ := nxq s16 _ _ _ 1099511627776 q16 (by decide)
      obtain ⟨F1, hF1⟩ : ∃ F1, F1 = nxt bs 1099511627776 T1.2.1 T1.2.2 := ⟨_, rfl⟩
      rw [← hF1] at e17 q17
      obtain ⟨s18, e18, q18⟩ := nxq s17 _ _ _ 1099511627776 q17 (by decide)
      obtain ⟨O1, hO1⟩ : ∃ O1, O1 = nxt bs 1099511627776 F1.2.1 F1.2.2 := ⟨_, rfl⟩
      rw [← hO1] at e18 q18
      obtain ⟨s19, e19, q19⟩ := stq s18 _ _ _ { e0 with i := (I1.1 : Nat), t := (T1.1 : Nat), f := (F1.1 : Nat) } 4 (.int .i64 (F1.1 : Nat)) q18 rfl (by omega)
      obtain ⟨s20, e20, q20⟩ := stq s19 _ _ _ { e0 with i := (I1.1 : Nat), t := (T1.1 : Nat), f := (F1.1 : Nat), o := (O1.1 : Nat) } 5 (.int .i64 (O1.1 : Nat)) q19 rfl (by omega)
      obtain ⟨s21, e21, q21⟩ := nxq s20 _ _ _ 4294967295 q20 (by decide)
      obtain ⟨U1, hU1⟩ : ∃ U1, U1 = nxt bs 4294967295 O1.2.1 O1.2.2 := ⟨_, rfl⟩
      have hUl : U1.1 ≤ 4294967295 := by rw [hU1]; exact nxt_le
      rw [← hU1] at e21 q21
      have wU : IntKind.u32.wrap (U1.1 : Int) = (U1.1 : Int) := by rw [wrap32]; omega
      obtain ⟨s22, e22, q22⟩ := stq s21 _ _ _ { e0 with i := (I1.1 : Nat), t := (T1.1 : Nat), f := (F1.1 : Nat), o := (O1.1 : Nat), u := (U1.1 : Nat) } 6 (.int .u32 (U1.1 : Nat)) q21 rfl (by omega)
      obtain ⟨τ, et, gt⟩ := finq s22 _ _ _ q22 ⟨by show (0 : Int) ≤ (U1.1 : Nat); omega, by show ((U1.1 : Nat) : Int) < 4294967296; omega⟩
      have hres : getFields bs c0 = some ({ e0 with i := (I1.1 : Nat), t := (T1.1 : Nat), f := (F1.1 : Nat), o := (O1.1 : Nat), u := (U1.1 : Nat) }, U1.2.2) := by
        unfold getFields
        rw [if_pos k1]
        simp only [← hP, ← hI1, ← hT1, ← hF1, ← hO1, ← hU1, he0]
      rw [hres]
      refine ⟨τ, ?_, gt⟩
      clear nxq stq finq nxr hupd q13 q14 q15 q16 q17 q18 q19 q20 q21 q22
      generalize resE (if U1.2.2 = false ∧ putE { e0 with i := (I1.1 : Nat), t := (T1.1 : Nat), f := (F1.1 : Nat), o := (O1.1 : Nat), u := (U1.1 : Nat) } = some bs then some { e0 with i := (I1.1 : Nat), t := (T1.1 : Nat), f := (F1.1 : Nat), o := (O1.1 : Nat), u := (U1.1 : Nat) } else none) = RES at *
      unfold getTail at et
      generalize R (d + 9) = r at *
      generalize ((P.1 : Nat) : Int) = PV at *
      generalize ((I1.1 : Nat) : Int) = IV at *
      generalize ((T1.1 : Nat) : Int) = TV at *
      generalize ((F1.1 : Nat) : Int) = FV at *
      generalize ((O1.1 : Nat) : Int) = OV at *
      generalize ((U1.1 : Nat) : Int) = UV at *
      have e10' : r 53 [I .u64 1073741824, Z (.ptr n 0), Z (.ptr (n + 2) 0), Z (.ptr (n + 3) 0)] s9 = some (I .i64 PV, s10) := e10
      have e13' : r 53 [I .u64 1073741824, Z (.ptr n 0), Z (.ptr (n + 2) 0), Z (.ptr (n + 3) 0)] s12 = some (I .i64 IV, s13) := e13
      have e14' : r 53 [I .u64 4, Z (.ptr n 0), Z (.ptr (n + 2) 0), Z (.ptr (n + 3) 0)] s13 = some (I .i64 TV, s14) := e14
      have e17' : r 53 [I .u64 1099511627776, Z (.ptr n 0), Z (.ptr (n + 2) 0), Z (.ptr (n + 3) 0)] s16 = some (I .i64 FV, s17) := e17
      have e18' : r 53 [I .u64 1099511627776, Z (.ptr n 0), Z (.ptr (n + 2) 0), Z (.ptr (n + 3) 0)] s17 = some (I .i64 OV, s18) := e18
      have e21' : r 53 [I .u64 4294967295, Z (.ptr n 0), Z (.ptr (n + 2) 0), Z (.ptr (n + 3) 0)] s20 = some (I .i64 UV, s21) := e21
      simpa [nw1, nw2, ld1, hlen', hnd, nw6, nw7, st8, st9, clo, ld9, ix0, lp0, w0, dy, e10', ag0, nw11, st12, ck1, ck2, hkind, d1, e13', e14', e15, e16, e17', e18', e19, e20, e21', wU, e22] using et
    · have d1 : decide (C = 1) = false := decide_eq_false (by omega)
      by_cases k2 : c0.toNat = 2
      · have d2 : decide (C = 2) = true := decide_eq_true (by omega)
        obtain ⟨s13, e13, q13⟩ := nxq s12 _ _ _ 1073741824 q12 (by decide)
        obtain ⟨I1, hI1⟩ : ∃ I1, I1 = nxt bs 1073741824 P.2.1 P.2.2 := ⟨_, rfl⟩
        rw [← hI1] at e13 q13
        obtain ⟨s14, e14, q14⟩ := stq s13 _ _ _ { e0 with i := (I1.1 : Nat) } 2 (.int .i64 (I1.1 : Nat)) q13 rfl (by omega)
        obtain ⟨τ, et, gt⟩ := finq s14 _ _ _ q14 hw0
        have hres : getFields bs c0 = some ({ e0 with i := (I1.1 : Nat) }, I1.2.2) := by
          unfold getFields
          rw [if_neg k1, if_pos k2]
          simp only [← hP, ← hI1, he0]
        rw [hres]
        refine ⟨τ, ?_, gt⟩
        clear nxq stq finq nxr hupd q13 q14
        generalize resE (if I1.2.2 = false ∧ putE { e0 with i := (I1.1 : Nat) } = some bs then some { e0 with i := (I1.1 : Nat) } else none) = RES at *
        unfold getTail at et
        generalize R (d + 9) = r at *
        generalize ((P.1 : Nat) : Int) = PV at *
        generalize ((I1.1 : Nat) : Int) = IV at *
        have e10' : r 53 [I .u64 1073741824, Z (.ptr n 0), Z (.ptr (n + 2) 0), Z (.ptr (n + 3) 0)] s9 = some (I .i64 PV, s10) := e10
        have e13' : r 53 [I .u64 1073741824, Z (.ptr n 0), Z (.ptr (n + 2) 0), Z (.ptr (n + 3) 0)] s12 = some (I .i64 IV, s13) := e13
        simpa [nw1, nw2, ld1, hlen', hnd, nw6, nw7, st8, st9, clo, ld9, ix0, lp0, w0, dy, e10', ag0, nw11, st12, ck1, ck2, hkind, d1, d2, e13', e14] using et
      · have d2 : decide (C = 2) = false := decide_eq_false (by omega)
        by_cases k4 : c0.toNat = 4
        · have d4 : decide (C = 4) = true := decide_eq_true (by omega)
          obtain ⟨s13, e13, q13⟩ := nxq s12 _ _ _ 300 q12 (by decide)
          obtain ⟨M1, hM1⟩ : ∃ M1, M1 = nxt bs 300 P.2.1 P.2.2 := ⟨_, rfl⟩
          have hMl : M1.1 ≤ 300 := by rw [hM1]; exact nxt_le
          rw [← hM1] at e13 q13
          have hat := q13.1.le
          have lb : aLoad1 (Z (.ptr (n + 3) 0)) s13.get = some (B M1.2.2) := by rw [hn]; exact aLoad1_of q13.1.c5 rfl
          have lx : aLoad1 (Z (.ptr n 0)) s13.get = some (Z x) := by rw [hn]; exact aLoad1_of q13.1.c1 rfl
          have la : aLoad1 (Z (.ptr (n + 2) 0)) s13.get = some (I .i64 (M1.2.1 : Nat)) := by rw [hn]; exact aLoad1_of q13.1.c4 rfl
          have l2 : s13.get (n + 1) = some (.cells true (cE ent0)) := by rw [hn]; exact q13.1.c2
          have wsub : IntKind.i64.wrap ((bs.length : Int) - ((M1.2.1 : Nat) : Int)) = (bs.length : Int) - ((M1.2.1 : Nat) : Int) := wrap_in _ (by omega) (by omega)
          have wadd : IntKind.i64.wrap (((M1.2.1 : Nat) : Int) + ((M1.1 : Nat) : Int)) = ((M1.2.1 + M1.1 : Nat) : Int) := by rw [wrap_in _ (by omega) (by omega)]; omega
          have e10' : R (d + 9) 53 [I .u64 1073741824, Z (.ptr n 0), Z (.ptr (n + 2) 0), Z (.ptr (n + 3) 0)] s9 = some (I .i64 ((P.1 : Nat) : Int), s10) := e10
          have e13' : R (d + 9) 53 [I .u64 300, Z (.ptr n 0), Z (.ptr (n + 2) 0), Z (.ptr (n + 3) 0)] s12 = some (I .i64 ((M1.1 : Nat) : Int), s13) := e13
          by_cases hbad : M1.2.2 = true ∨ bs.length < M1.2.1 + M1.1
          · have hres : getFields bs c0 = none := by
              unfold getFields
              rw [if_neg k1, if_neg k2, if_pos k4]
              simp only [← hP, ← hM1]
              rw [if_pos hbad]
            rw [hres]
            have st := store8 (e := ent0) l2 rfl
            have ld := load8 (g := (s13.set (n + 1) (.cells true (cE ent0))).get) (i := n + 1) (e := ent0) (St.get_set_same _ _ _)
            refine ⟨s13.set (n + 1) (.cells true (cE ent0)), ?_, ⟨St.wf_set q13.1.gr.wf (by have := q13.2.1; omega) _, by simpa using q13.1.gr.2.1, fun b hb => by rw [St.get_set_ne _ _ (by omega)]; exact q13.1.gr.2.2 b hb⟩⟩
            clear nxq stq finq nxr hupd q13
            generalize s13.set (n + 1) (.cells true (cE ent0)) = s14 at *
            generalize R (d + 9) = r at *
            cases hb2 : M1.2.2 with
            | true =>
              rw [hb2] at lb
              generalize ((P.1 : Nat) : Int) = PV at *
              generalize ((M1.1 : Nat) : Int) = MV at *
              simp [nw1, nw2, ld1, hlen', hnd, nw6, nw7, st8, st9, clo, ld9, ix0, lp0, w0, dy, e10', ag0, nw11, st12, ck1, ck2, hkind, d1, d2, d4, e13', lb, gtt, agg8, st, ld, rC, rT, retT, allV]
            | false =>
              rw [hb2] at lb hbad
              have hgt : (bs.length : Int) - ((M1.2.1 : Nat) : Int) < ((M1.1 : Nat) : Int) := by
                rcases hbad with h | h
                · cases h
                · omega
              have dgt : decide ((bs.length : Int) - ((M1.2.1 : Nat) : Int) < ((M1.1 : Nat) : Int)) = true := decide_eq_true hgt
              generalize ((P.1 : Nat) : Int) = PV at *
              generalize ((M1.1 : Nat) : Int) = MV at *
              generalize ((M1.2.1 : Nat) : Int) = AV at *
              simp [nw1, nw2, ld1, hlen', hnd, nw6, nw7, st8, st9, clo, ld9, ix0, lp0, w0, dy, e10', ag0, nw11, st12, ck1, ck2, hkind, d1, d2, d4, e13', lb, lx, la, wsub, hgt, agg8, st, ld, rC, rT, retT, allV]
          · have hb2 : M1.2.2 = false := by
              cases h : M1.2.2 with
              | false => rfl
              | true => exact absurd (.inl h) hbad
            have hle : M1.2.1 + M1.1 ≤ bs.length := by
              apply Nat.le_of_not_lt
              exact fun h => hbad (.inr h)
            have hgt : ¬ ((bs.length : Int) - ((M1.2.1 : Nat) : Int) < ((M1.1 : Nat) : Int)) := by omega
            rw [hb2] at lb
            have rx13 : RB s13 x bs := hx.gr hox q13.1.gr
            obtain ⟨y, pc, ry, _⟩ := rx13.piece (lo := M1.2.1) (hi := M1.2.1 + M1.1) (by omega) hle
            have hpl : M1.2.1 + M1.1 - M1.2.1 = M1.1 := by omega
            rw [hpl, Nat.mul_one, Nat.mul_one, U_drop, U_take] at ry
            have ry' : RB s13 y ((bs.drop M1.2.1).take M1.1) := by
              have : ((bs.drop M1.2.1).take M1.1).length = M1.1 := by rw [List.length_take, List.length_drop]; omega
              unfold RB
              rw [this]
              exact ry
            have hstr := ry'.str
            obtain ⟨s14, e14, q14⟩ := stq s13 _ _ _ { e0 with x := (bs.drop M1.2.1).take M1.1 } 7 (.str ((bs.drop M1.2.1).take M1.1)) q13 rfl (by omega)
            obtain ⟨τ, et, gt⟩ := finq s14 _ _ _ q14 hw0
            have hres : getFields bs c0 = some ({ e0 with x := (bs.drop M1.2.1).take M1.1 }, M1.2.2) := by
              unfold getFields
              rw [if_neg k1, if_neg k2, if_pos k4]
              simp only [← hP, ← hM1]
              rw [if_neg hbad, he0]
            rw [hres]
            refine ⟨τ, ?_, gt⟩
            clear nxq stq finq nxr hupd q13 q14
            generalize resE (if M1.2.2 = false ∧ putE { e0 with x := (bs.drop M1.2.1).take M1.1 } = some bs then some { e0 with x := (bs.drop M1.2.1).take M1.1 } else none) = RES at *
            unfold getTail at et
            generalize R (d + 9) = r at *
            generalize (bs.drop M1.2.1).take M1.1 = XX at *
            generalize ((P.1 : Nat) : Int) = PV at *
            generalize ((M1.2.1 + M1.1 : Nat) : Int) = BV at *
            generalize ((M1.1 : Nat) : Int) = MV at *
            generalize ((M1.2.1 : Nat) : Int) = AV at *
            simpa [nw1, nw2, ld1, hlen', hnd, nw6, nw7, st8, st9, clo, ld9, ix0, lp0, w0, dy, e10', ag0, nw11, st12, ck1, ck2, hkind, d1, d2, d4, e13', lb, lx, la, wsub, hgt, wadd, pc, hstr, e14] using et
        · have d4 : decide (C = 4) = false := decide_eq_false (by omega)
          obtain ⟨τ, et, gt⟩ := finq s12 _ _ _ q12 hw0
          have hres : getFields bs c0 = some (e0, P.2.2) := by
            unfold getFields
            rw [if_neg k1, if_neg k2, if_neg k4]
            simp only [← hP, he0]
          rw [hres]
          refine ⟨τ, ?_, gt⟩
          clear nxq stq finq nxr hupd
          generalize resE (if P.2.2 = false ∧ putE e0 = some bs then some e0 else none) = RES at *
          unfold getTail at et
          generalize R (d + 9) = r at *
          generalize ((P.1 : Nat) : Int) = PV at *
          have e10' : r 53 [I .u64 1073741824, Z (.ptr n 0), Z (.ptr (n + 2) 0), Z (.ptr (n + 3) 0)] s9 = some (I .i64 PV, s10) := e10
          simpa [nw1, nw2, ld1, hlen', hnd, nw6, nw7, st8, st9, clo, ld9, ix0, lp0, w0, dy, e10', ag0, nw11, st12, ck1, ck2, hkind, d1, d2, d4] using et
end
end Go.Proofs.YtlhbidbdmdcdeaaGreatDoor
