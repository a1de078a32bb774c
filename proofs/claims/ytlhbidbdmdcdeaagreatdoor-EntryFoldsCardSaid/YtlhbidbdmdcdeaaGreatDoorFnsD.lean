/-
  Several texts in one: what functions that the law reaches compute. No conditions but those named in each line.
-/
import Derived.Test.YtlhbidbdmdcdeaaGreatDoorFnsC
/-
  What entry.Get computes, in any store. No conditions but those named in each line.
-/
namespace Go.Proofs.YtlhbidbdmdcdeaaGreatDoor
open Go Go.Abs Go.Abs.F
set_option linter.unusedVariables false

def nxt (bs : Bs) (most at_ : Nat) (bad : Bool) : Nat × Nat × Bool := match vget bs at_ with
  | some (n, e) => (min n most, e, bad || decide (most < n))
  | none => (0, at_, true)

def getFields (bs : Bs) (c : UInt8) : Option (Ent × Bool) :=
  let p := nxt bs 1073741824 1 false
  let e0 : Ent := { ent0 with k := c.toNat, v := (p.1 : Nat) }
  if c.toNat = 1 then
    let i := nxt bs 1073741824 p.2.1 p.2.2
    let t := nxt bs 4 i.2.1 i.2.2
    let f := nxt bs 1099511627776 t.2.1 t.2.2
    let o := nxt bs 1099511627776 f.2.1 f.2.2
    let u := nxt bs 4294967295 o.2.1 o.2.2
    some ({ e0 with i := (i.1 : Nat), t := (t.1 : Nat), f := (f.1 : Nat), o := (o.1 : Nat), u := (u.1 : Nat) }, u.2.2)
  else if c.toNat = 2 then
    let i := nxt bs 1073741824 p.2.1 p.2.2
    some ({ e0 with i := (i.1 : Nat) }, i.2.2)
  else if c.toNat = 4 then
    let m := nxt bs 300 p.2.1 p.2.2
    if m.2.2 = true ∨ bs.length < m.2.1 + m.1 then none else some ({ e0 with x := (bs.drop m.2.1).take m.1 }, m.2.2)
  else some (e0, p.2.2)

def getE (bs : Bs) : Option Ent := match bs with
  | [] => none
  | c :: _ => match getFields bs c with
    | none => none
    | some (e, bad) => if bad = false ∧ putE e = some bs then some e else none

section
variable {s t : St} {x y : S} {bs cs : Bs} {i : Nat}

theorem nxt_le {bs : Bs} {most at_ : Nat} {bad : Bool} : (nxt bs most at_ bad).1 ≤ most := by
  unfold nxt
  split
  · exact Nat.min_le_right _ _
  · exact Nat.zero_le _
theorem nxt_at {bs : Bs} {most at_ : Nat} {bad : Bool} (h : at_ ≤ bs.length) : (nxt bs most at_ bad).2.1 ≤ bs.length := by
  unfold nxt
  split
  · rename_i n e he
    exact (vget_lt he).2
  · exact h

theorem beq_run (d : Nat) (h : RB s x bs) (k : RB s y cs) : R (d + 1) 55 [Z x, Z y] s = some (B (decide (bs = cs)), s) := by
  rw [f55_run]
  unfold f55
  simp [h.str, k.str]

/-- While the numbers are read. -/
structure Cur (s0 s : St) (x : S) (bs : Bs) (at_ : Nat) (bad : Bool) : Prop where
  gr : Gr s0 s
  ge : s0.size + 4 ≤ s.size
  c1 : s.get s0.size = some (.cells true [x])
  c2 : s.get (s0.size + 1) = some (.cells true (cE ent0))
  c4 : s.get (s0.size + 2) = some (.cells true [.int .i64 (at_ : Nat)])
  c5 : s.get (s0.size + 3) = some (.cells true [.bool bad])
  le : at_ ≤ bs.length

theorem Cur.set {s0 : St} {at_ : Nat} {bad : Bool} (h : Cur s0 s x bs at_ bad) {b : Nat} (hb : s0.size + 4 ≤ b) (hb2 : b < s.size) (v : Blk) : Cur s0 (s.set b v) x bs at_ bad :=
  ⟨⟨St.wf_set h.gr.wf hb2 _, by simpa using h.gr.2.1, fun c hc => by rw [St.get_set_ne _ _ (by omega)]; exact h.gr.2.2 c hc⟩, by simpa using h.ge, by rw [St.get_set_ne _ _ (by omega)]; exact h.c1, by rw [St.get_set_ne _ _ (by omega)]; exact h.c2,
    by rw [St.get_set_ne _ _ (by omega)]; exact h.c4, by rw [St.get_set_ne _ _ (by omega)]; exact h.c5, h.le⟩

theorem Cur.gr' {s0 : St} {at_ : Nat} {bad : Bool} (h : Cur s0 s x bs at_ bad) (g : Gr s t) : Cur s0 t x bs at_ bad := by
  have := h.ge
  exact ⟨h.gr.trans g, Nat.le_trans h.ge g.2.1, by rw [g.2.2 _ (by omega)]; exact h.c1, by rw [g.2.2 _ (by omega)]; exact h.c2, by rw [g.2.2 _ (by omega)]; exact h.c4, by rw [g.2.2 _ (by omega)]; exact h.c5, h.le⟩

theorem next_run (d : Nat) {s0 : St} {at_ : Nat} {bad : Bool} (h : Cur s0 s x bs at_ bad) (hx : RB s0 x bs) (hox : ∀ c, own x = some c → c < s0.size) (hl : bs.length ≤ 8000) (most : Nat) (hm : most < 2 ^ 63) :
    ∃ t, R (d + 2) 53 [I .u64 (most : Nat), Z (.ptr s0.size 0), Z (.ptr (s0.size + 2) 0), Z (.ptr (s0.size + 3) 0)] s = some (I .i64 ((nxt bs most at_ bad).1 : Nat), t) ∧ Cur s0 t x bs (nxt bs most at_ bad).2.1 (nxt bs most at_ bad).2.2 ∧ t.size = s.size ∧
      ∀ b, b ≠ s0.size + 2 → b ≠ s0.size + 3 → t.get b = s.get b := by
  rw [f53_run]
  unfold f53
  have hge := h.ge
  have hle := h.le
  have rx : RB s x bs := hx.gr hox h.gr
  have l1 : aLoad1 (Z (.ptr s0.size 0)) s.get = some (Z x) := aLoad1_of h.c1 rfl
  have l4 : aLoad1 (Z (.ptr (s0.size + 2) 0)) s.get = some (I .i64 (at_ : Nat)) := aLoad1_of h.c4 rfl
  have l5 : aLoad1 (Z (.ptr (s0.size + 3) 0)) s.get = some (B bad) := aLoad1_of h.c5 rfl
  have e1 := vget_run d rx (by omega) (at_ := at_) (by omega)
  obtain ⟨N, hN⟩ : ∃ N, N = nxt bs most at_ bad := ⟨_, rfl⟩
  rw [← hN]
  obtain ⟨t1, ht1⟩ : ∃ t1, t1 = s.set (s0.size + 3) (.cells true [.bool N.2.2]) := ⟨_, rfl⟩
  have st1 : aStore 1 (Z (.ptr (s0.size + 3) 0)) (B N.2.2) s = some (tt, t1) := by rw [ht1]; exact aStore1_of h.c5 (by simp)
  have c4' : t1.get (s0.size + 2) = some (.cells true [.int .i64 (at_ : Nat)]) := by rw [ht1, St.get_set_ne _ _ (by omega)]; exact h.c4
  obtain ⟨t2, ht2⟩ : ∃ t2, t2 = t1.set (s0.size + 2) (.cells true [.int .i64 (N.2.1 : Nat)]) := ⟨_, rfl⟩
  have st2 : aStore 1 (Z (.ptr (s0.size + 2) 0)) (I .i64 (N.2.1 : Nat)) t1 = some (tt, t2) := by rw [ht2]; exact aStore1_of c4' (by simp)
  have z1 : t1.size = s.size := by rw [ht1]; rfl
  have z2 : t2.size = s.size := by rw [ht2]; exact z1
  have w1 : t1.wf := by rw [ht1]; exact St.wf_set h.gr.wf (by omega) _
  have w2 : t2.wf := by rw [ht2]; exact St.wf_set w1 (by omega) _
  have keep : ∀ b, b ≠ s0.size + 2 → b ≠ s0.size + 3 → t2.get b = s.get b := fun b h1 h2 => by rw [ht2, St.get_set_ne _ _ h1, ht1, St.get_set_ne _ _ h2]
  have hN1 : N.2.1 ≤ bs.length := by rw [hN]; exact nxt_at hle
  have cur : Cur s0 t2 x bs N.2.1 N.2.2 := ⟨⟨w2, by rw [z2]; exact h.gr.2.1, fun b hb => by rw [keep b (by omega) (by omega)]; exact h.gr.2.2 b hb⟩, by omega, by rw [keep _ (by omega) (by omega)]; exact h.c1, by rw [keep _ (by omega) (by omega)]; exact h.c2,
    by rw [ht2]; exact St.get_set_same _ _ _, by rw [ht2, St.get_set_ne _ _ (by omega), ht1]; exact St.get_set_same _ _ _, hN1⟩
  refine ⟨t2, ?_, cur, z2, keep⟩
  cases hv : vget bs at_ with
  | none =>
    have hn : N = (0, at_, true) := by rw [hN]; unfold nxt; rw [hv]
    rw [hv] at e1
    simp only [vres, if_pos hle] at e1
    rw [hn] at st1 st2 ⊢
    have hmin : min (0 : Int) ((most : Nat) : Int) = 0 := by omega
    have w0 : IntKind.i64.wrap 0 = 0 := rfl
    cases bad with
    | true => simp [l1, l4, e1, aExtract, l5, gtt, st1, st2, hmin, w0]
    | false => simp [l1, l4, e1, aExtract, l5, gtt, st1, st2, hmin, w0]
  | some p =>
    obtain ⟨n, e⟩ := p
    have hn : N = (min n most, e, bad || decide (most < n)) := by rw [hN]; unfold nxt; rw [hv]
    rw [hv] at e1
    simp only [vres] at e1
    rw [hn] at st1 st2 ⊢
    have hmin : min ((n : Nat) : Int) ((most : Nat) : Int) = ((min n most : Nat) : Int) := by omega
    have wm : IntKind.i64.wrap ((min n most : Nat) : Int) = ((min n most : Nat) : Int) := wrap_in _ (by omega) (by omega)
    have cm : decide (((most : Nat) : Int) < ((n : Nat) : Int)) = decide (most < n) := decide_eq_decide.2 (by omega)
    generalize ((min n most : Nat) : Int) = M at *
    generalize ((n : Nat) : Int) = NN at *
    generalize ((most : Nat) : Int) = MM at *
    generalize decide (most < n) = dd at *
    cases bad with
    | true => simp [l1, l4, e1, aExtract, l5, gtt, st2, hmin, wm] at st1 ⊢; simp [st1, st2]
    | false => simp [l1, l4, e1, aExtract, l5, gtt, st2, hmin, wm, cm] at st1 ⊢; simp [st1, st2]

/-- What Get does last. -/
noncomputable def getTail (callf : CallF) (v42 : List T) (s43 : St) : Option (T × St) :=
  bd (aLoadN 8 (v42.getD 3 .any) s43.get) fun t71 =>
  bd2 (callf 31 [t71] s43) fun t72 s46 =>
  bd (aExtract t72 0) fun t73 =>
  bd (aExtract t72 1) fun t74 =>
  bd (aLoad1 (v42.getD 2 .any) s46.get) fun t75 =>
  bd (gT (gd t75 false) (some t74)) fun t77 =>
  bd (gT (gd t75 false) (aBin .neq t77 (I .i64 0))) fun t78 =>
  bd (aPick t75 (B true) t78) fun t79 =>
  bd (gT (gd t79 false) (some t73)) fun t81 =>
  bd (gT (gd t79 false) (aLoad1 (v42.getD 0 .any) s46.get)) fun t82 =>
  bd2 (gS (gd t79 false) s46 (callf 55 [t81, t82] s46)) fun t83 s47 =>
  bd (gT (gd t79 false) (aUn .not t83)) fun t84 =>
  bd (aPick t79 (B true) t84) fun t85 =>
  br t85 (bd (asAggT (aFill [.int .i64 0, .int .i64 0, .int .i64 0, .int .i64 0, .int .i64 0, .int .i64 0, .int .u32 0, .str []] [])) fun t86 =>
  bd2 (aStore 8 (v42.getD 1 .any) t86 s47) fun _ s48 =>
  bd (rC (aLoadN 8 (v42.getD 1 .any) s48.get) (rT (I .i64 2) (some []))) fun l49 => bd (retT l49) fun r50 =>
  some (r50, s48))
  (bd (aLoadN 8 (v42.getD 3 .any) s47.get) fun t87 =>
  bd2 (aStore 8 (v42.getD 1 .any) t87 s47) fun _ s51 =>
  bd (rC (aLoadN 8 (v42.getD 1 .any) s51.get) (rT (I .i64 0) (some []))) fun l52 => bd (retT l52) fun r53 =>
  some (r53, s51))

abbrev resE (o : Option Ent) : T := match o with
  | some e => .tup [.agg (cE e), .s (.int .i64 0)]
  | none => .tup [.agg (cE ent0), .s (.int .i64 2)]

theorem tail_run (d : Nat) {s0 : St} {at_ : Nat} {bad : Bool} {e : Ent} (h : Cur s0 s x bs at_ bad) (hx : RB s0 x bs) (hox : ∀ c, own x = some c → c < s0.size) (hz : s.size = s0.size + 5) (he : s.get (s0.size + 4) = some (.cells true (cE e))) (hw : EWf e) :
    ∃ τ, getTail (R (d + 9)) [Z (.ptr s0.size 0), Z (.ptr (s0.size + 1) 0), Z (.ptr (s0.size + 3) 0), Z (.ptr (s0.size + 4) 0)] s = some (resE (if bad = false ∧ putE e = some bs then some e else none), τ) ∧ Gr s0 τ := by
  have l8 := load8 (g := s.get) he
  unfold getTail
  -- whatever Put says
  have fin : ∀ u, Gr s u → aLoad1 (Z (.ptr (s0.size + 3) 0)) u.get = some (B bad) ∧ aLoad1 (Z (.ptr s0.size 0)) u.get = some (Z x) ∧ RB u x bs ∧ aLoadN 8 (Z (.ptr (s0.size + 4) 0)) u.get = some (AE e) ∧
      (∀ e', aStore 8 (Z (.ptr (s0.size + 1) 0)) (AE e') u = some (tt, u.set (s0.size + 1) (.cells true (cE e'))) ∧ aLoadN 8 (Z (.ptr (s0.size + 1) 0)) (u.set (s0.size + 1) (.cells true (cE e'))).get = some (AE e') ∧ Gr s0 (u.set (s0.size + 1) (.cells true (cE e')))) := fun u g => by
    have h' := h.gr' g
    have he' : u.get (s0.size + 4) = some (.cells true (cE e)) := by rw [g.2.2 _ (by omega)]; exact he
    refine ⟨aLoad1_of h'.c5 rfl, aLoad1_of h'.c1 rfl, hx.gr hox h'.gr, load8 he', fun e' => ⟨store8 h'.c2 rfl, load8 (St.get_set_same _ _ _), ⟨St.wf_set h'.gr.wf (by have := h'.ge; omega) _, by simpa using h'.gr.2.1, fun b hb => by rw [St.get_set_ne _ _ (by omega)]; exact h'.gr.2.2 b hb⟩⟩⟩
  cases hm : mayE e with
  | false =>
    obtain ⟨u, eu, gu⟩ := put_bad d h.gr.wf hm
    obtain ⟨f1, f2, f3, f4, f5⟩ := fin u gu
    obtain ⟨q1, q2, q3⟩ := f5 ent0
    have hp : ¬ (bad = false ∧ putE e = some bs) := fun hh => by simp [putE, hm] at hh
    rw [if_neg hp]
    refine ⟨_, ?_, q3⟩
    generalize u.set (s0.size + 1) (.cells true (cE ent0)) = u2 at *
    generalize R (d + 9) = r at *
    cases bad with
    | true => simp [l8, eu, aExtract, f1, gtt, agg8, q1, q2, rC, rT, retT, allV]
    | false => simp [l8, eu, aExtract, f1, gtt, agg8, q1, q2, rC, rT, retT, allV]
  | true =>
    obtain ⟨y, u, eu, fu⟩ := put_run d h.gr.wf hm hw
    obtain ⟨f1, f2, f3, f4, f5⟩ := fin u fu.gr
    have eq := beq_run (d + 8) fu.rd f3
    have hput : putE e = some (putB e) := by simp [putE, hm]
    simp only [Nat.add_assoc, Nat.reduceAdd] at eq
    cases bad with
    | true =>
      obtain ⟨q1, q2, q3⟩ := f5 ent0
      have hp : ¬ (true = false ∧ putE e = some bs) := fun hh => by simp at hh
      rw [if_neg hp]
      refine ⟨_, ?_, q3⟩
      generalize u.set (s0.size + 1) (.cells true (cE ent0)) = u2 at *
      generalize R (d + 9) = r at *
      simp [l8, eu, aExtract, f1, gtt, agg8, q1, q2, rC, rT, retT, allV]
    | false =>
      by_cases hb : putB e = bs
      · obtain ⟨q1, q2, q3⟩ := f5 e
        rw [if_pos ⟨rfl, by rw [hput, hb]⟩]
        rw [decide_eq_true hb] at eq
        refine ⟨_, ?_, q3⟩
        generalize u.set (s0.size + 1) (.cells true (cE e)) = u2 at *
        generalize R (d + 9) = r at *
        simp [l8, eu, aExtract, f1, f2, f4, eq, q1, q2, rC, rT, retT, allV]
      · obtain ⟨q1, q2, q3⟩ := f5 ent0
        have hp : ¬ (false = false ∧ putE e = some bs) := fun hh => by
          rw [hput] at hh
          exact hb (by simpa using hh.2)
        rw [if_neg hp]
        rw [decide_eq_false hb] at eq
        refine ⟨_, ?_, q3⟩
        generalize u.set (s0.size + 1) (.cells true (cE ent0)) = u2 at *
        generalize R (d + 9) = r at *
        simp [l8, eu, aExtract, f1, f2, eq, agg8, q1, q2, rC, rT, retT, allV]

theorem dyn_clo {callf : CallF} {f a b c : Nat} {args : List T} {σ : St} (h : callable Tryz.prog f = true) : dyn Tryz.prog callf (Z (.clo f [(a, 0), (b, 0), (c, 0)])) args σ = callf f (args ++ [Z (.ptr a 0), Z (.ptr b 0), Z (.ptr c 0)]) σ := by
  simp [dyn, h, capT]

theorem set_field {e : Ent} : setRange (cE e) 2 [.int .i64 i] = cE { e with i := i } ∧ setRange (cE e) 3 [.int .i64 i] = cE { e with t := i } ∧ setRange (cE e) 4 [.int .i64 i] = cE { e with f := i } ∧ setRange (cE e) 5 [.int .i64 i] = cE { e with o := i } ∧
    setRange (cE e) 6 [.int .u32 i] = cE { e with u := i } ∧ setRange (cE e) 7 [.str bs] = cE { e with x := bs } := ⟨rfl, rfl, rfl, rfl, rfl, rfl⟩

theorem get_run (d : Nat) (wf : s.wf) (hx : RB s x bs) (hox : ∀ c, own x = some c → c < s.size) (hl : bs.length ≤ 8000) : ∃ τ, R (d + 10) 33 [Z x] s = some (resE (getE bs), τ) ∧ Gr s τ := by
  rw [f33_run]
  unfold f33
  obtain ⟨n, hn⟩ : ∃ n, n = s.size := ⟨_, rfl⟩
  obtain ⟨s1, hs1⟩ : ∃ s1, s1 = s.push (.cells true [x]) := ⟨_, rfl⟩
  have nw1 : aNew s (nBox (Z x)) = some (Z (.ptr n 0), s1) := by rw [hs1, hn]; rfl
  have g1 : Gr s s1 := by rw [hs1]; exact Gr.push wf _
  have z1 : s1.size = n + 1 := by rw [hs1, hn]; rfl
  have b1 : s1.get n = some (.cells true [x]) := by rw [hs1, hn]; exact St.get_push_same _ _
  obtain ⟨s2, hs2⟩ : ∃ s2, s2 = s1.push (.cells true (cE ent0)) := ⟨_, rfl⟩
  have nw2 : aNew s1 (nCells [.int .i64 0, .int .i64 0, .int .i64 0, .int .i64 0, .int .i64 0, .int .i64 0, .int .u32 0, .str []]) = some (Z (.ptr (n + 1) 0), s2) := by rw [hs2, ← z1]; rfl
  have g2 : Gr s1 s2 := by rw [hs2]; exact Gr.push g1.wf _
  have z2 : s2.size = n + 2 := by rw [hs2]; simp [z1]
  have b2 : s2.get (n + 1) = some (.cells true (cE ent0)) := by rw [hs2, ← z1]; exact St.get_push_same _ _
  have b1' : s2.get n = some (.cells true [x]) := by rw [g2.2.2 n (by omega)]; exact b1
  have ld1 : aLoad1 (Z (.ptr n 0)) s2.get = some (Z x) := aLoad1_of b1' rfl
  have hlen := hx.lenB
  cases hbs : bs with
  | nil =>
    rw [hbs] at hlen
    have st := store8 (e := ent0) b2 rfl
    have ld := load8 (g := (s2.set (n + 1) (.cells true (cE ent0))).get) (i := n + 1) (e := ent0) (St.get_set_same _ _ _)
    refine ⟨s2.set (n + 1) (.cells true (cE ent0)), ?_, ⟨St.wf_set g2.wf (by omega) _, by simp; omega, fun b hb => by rw [St.get_set_ne _ _ (by omega), g2.2.2 b (by omega), g1.2.2 b hb]⟩⟩
    generalize s2.set (n + 1) (.cells true (cE ent0)) = s3 at *
    simp [nw1, nw2, ld1, hlen, agg8, st, ld, rC, rT, retT, allV, getE]
  | cons c0 rest =>
    have hpos : 0 < bs.length := by rw [hbs]; simp
    obtain ⟨s6, hs6⟩ : ∃ s6, s6 = s2.push (.cells true [.int .i64 0]) := ⟨_, rfl⟩
    have nw6 : aNew s2 (nCells [.int .i64 0]) = some (Z (.ptr (n + 2) 0), s6) := by rw [hs6, ← z2]; rfl
    have g6 : Gr s2 s6 := by rw [hs6]; exact Gr.push g2.wf _
    have z6 : s6.size = n + 3 := by rw [hs6]; simp [z2]
    have b6 : s6.get (n + 2) = some (.cells true [.int .i64 0]) := by rw [hs6, ← z2]; exact St.get_push_same _ _
    obtain ⟨s7, hs7⟩ : ∃ s7, s7 = s6.push (.cells true [.bool false]) := ⟨_, rfl⟩
    have nw7 : aNew s6 (nCells [.bool false]) = some (Z (.ptr (n + 3) 0), s7) := by rw [hs7, ← z6]; rfl
    have g7 : Gr s6 s7 := by rw [hs7]; exact Gr.push g6.wf _
    have z7 : s7.size = n + 4 := by rw [hs7]; simp [z6]
    have b7 : s7.get (n + 3) = some (.cells true [.bool false]) := by rw [hs7, ← z6]; exact St.get_push_same _ _
    have b6' : s7.get (n + 2) = some (.cells true [.int .i64 0]) := by rw [g7.2.2 _ (by omega)]; exact b6
    obtain ⟨s8, hs8⟩ : ∃ s8, s8 = s7.set (n + 2) (.cells true [.int .i64 1]) := ⟨_, rfl⟩
    have st8 : aStore 1 (Z (.ptr (n + 2) 0)) (I .i64 1) s7 = some (tt, s8) := by rw [hs8]; exact aStore1_of b6' (by simp)
    have b7' : s8.get (n + 3) = some (.cells true [.bool false]) := by rw [hs8, St.get_set_ne _ _ (by omega)]; exact b7
    obtain ⟨s9, hs9⟩ : ∃ s9, s9 = s8.set (n + 3) (.cells true [.bool false]) := ⟨_, rfl⟩
    have st9 : aStore 1 (Z (.ptr (n + 3) 0)) (B false) s8 = some (tt, s9) := by rw [hs9]; exact aStore1_of b7' (by simp)
    have z9 : s9.size = n + 4 := by rw [hs9, hs8]; simpa using z7
    have wf8 : s8.wf := by rw [hs8]; exact St.wf_set g7.wf (by omega) _
    have wf9 : s9.wf := by rw [hs9]; exact St.wf_set wf8 (by rw [hs8]; simp [z7]) _
    have old9 : ∀ b, b < n + 2 → s9.get b = s2.get b := fun b hb => by rw [hs9, St.get_set_ne _ _ (by omega), hs8, St.get_set_ne _ _ (by omega), g7.2.2 b (by omega), g6.2.2 b (by omega)]
    have cur9 : Cur s s9 x bs 1 false := by
      refine ⟨⟨wf9, by omega, fun b hb => by rw [old9 b (by omega), g2.2.2 b (by omega), g1.2.2 b hb]⟩, by omega, by rw [← hn, old9 _ (by omega)]; exact b1', by rw [← hn, old9 _ (by omega)]; exact b2, ?_, by rw [← hn, hs9]; exact St.get_set_same _ _ _, by omega⟩
      rw [← hn, hs9, St.get_set_ne _ _ (by omega), hs8]
      exact St.get_set_same _ _ _
    have ld9 : aLoad1 (Z (.ptr n 0)) s9.get = some (Z x) := by rw [hn]; exact aLoad1_of cur9.c1 rfl
    have rx9 : RB s9 x bs := hx.gr hox cur9.gr
    have hc0 : bs[0]? = some c0 := by rw [hbs]; rfl
    obtain ⟨p0, ix0, lp0⟩ := RB.atB rx9 (n := 0) (j := 0) rfl hc0
    have clo : aClo 53 [Z (.ptr n 0), Z (.ptr (n + 2) 0), Z (.ptr (n + 3) 0)] [] = some (Z (.clo 53 [(n, 0), (n + 2, 0), (n + 3, 0)])) := rfl
    have hcal : callable Tryz.prog 53 = true := by kernel_rfl
    have dy : ∀ (r : CallF) (m : Int) (u : St), dyn Tryz.prog r (Z (.clo 53 [(n, 0), (n + 2, 0), (n + 3, 0)])) [I .u64 m] u = r 53 [I .u64 m, Z (.ptr n 0), Z (.ptr (n + 2) 0), Z (.ptr (n + 3) 0)] u := fun r m u => dyn_clo hcal
    have nxr : ∀ (u : St) (a : Nat) (bad : Bool) (most : Nat), Cur s u x bs a bad → most < 2 ^ 63 → ∃ t, R (d + 9) 53 [I .u64 (most : Nat), Z (.ptr n 0), Z (.ptr (n + 2) 0), Z (.ptr (n + 3) 0)] u = some (I .i64 ((nxt bs most a bad).1 : Nat), t) ∧ Cur s t x bs (nxt bs most a bad).2.1 (nxt bs most a bad).2.2 ∧ t.size = u.size ∧
        ∀ b, b ≠ n + 2 → b ≠ n + 3 → t.get b = u.get b := fun u a bad most hc hm => by
      have := next_run (d + 7) hc hx hox hl most hm
      rw [← hn] at this
      exact this
    obtain ⟨s10, e10, cur10, z10, k10⟩ := nxr s9 1 false 1073741824 cur9 (by decide)
    obtain ⟨P, hP⟩ : ∃ P, P = nxt bs 1073741824 1 false := ⟨_, rfl⟩
    rw [← hP] at e10 cur10
    obtain ⟨s11, hs11⟩ : ∃ s11, s11 = s10.push (.cells true (cE ent0)) := ⟨_, rfl⟩
    have nw11 : aNew s10 (nCells [.int .i64 0, .int .i64 0, .int .i64 0, .int .i64 0, .int .i64 0, .int .i64 0, .int .u32 0, .str []]) = some (Z (.ptr (n + 4) 0), s11) := by rw [hs11, show n + 4 = s10.size by omega]; rfl
    have g11 : Gr s10 s11 := by rw [hs11]; exact Gr.push cur10.gr.wf _
    have z11 : s11.size = n + 5 := by rw [hs11]; simp; omega
    have b11 : s11.get (n + 4) = some (.cells true (cE ent0)) := by rw [hs11, show n + 4 = s10.size by omega]; exact St.get_push_same _ _
    obtain ⟨e0, he0⟩ : ∃ e0 : Ent, e0 = { ent0 with k := c0.toNat, v := (P.1 : Nat) } := ⟨_, rfl⟩
    have ag0 : asAggT (aFill [.int .i64 0, .int .i64 0, .int .i64 0, .int .i64 0, .int .i64 0, .int .i64 0, .int .u32 0, .str []] [(0, 1, I .i64 (c0.toNat : Int)), (1, 1, I .i64 ((P.1 : Nat) : Int))]) = some (AE e0) := by rw [he0]; rfl
    obtain ⟨s12, hs12⟩ : ∃ s12, s12 = s11.set (n + 4) (.cells true (cE e0)) := ⟨_, rfl⟩
    have st12 := store8 (e := e0) b11 rfl
    rw [← hs12] at st12
    have cur12 : Cur s s12 x bs P.2.1 P.2.2 := by rw [hs12]; exact (cur10.gr' g11).set (by omega) (by omega) _
    have z12 : s12.size = n + 5 := by rw [hs12]; simpa using z11
    have b12 : s12.get (n + 4) = some (.cells true (cE e0)) := by rw [hs12]; exact St.get_set_same _ _ _
    -- the looks at what was read before
    have hupd : ∀ (q : T) (v : S), aLoad1 q s9.get = some (Z v) → (∀ b o, q = Z (.ptr b o) → b < s.size ∨ b = n) → aLoad1 q (updM s10.get s10.size (.cells true [.int .i64 0, .int .i64 0, .int .i64 0, .int .i64 0, .int .i64 0, .int .i64 0, .int .u32 0, .str []])) = aLoad1 q s9.get := by
      intro q v hq hb
      cases q with
      | any => cases hq
      | tup _ => cases hq
      | v w => cases w with
        | agg _ => cases hq
        | s w => cases w with
          | ptr b o =>
            have hb' := hb b o rfl
            have e1 : updM s10.get s10.size (.cells true [.int .i64 0, .int .i64 0, .int .i64 0, .int .i64 0, .int .i64 0, .int .i64 0, .int .u32 0, .str []]) b = s9.get b := by
              rw [updM_ne _ _ (by omega)]
              exact k10 b (by omega) (by omega)
            simp only [aLoad1, e1]
          | _ => cases hq
    have ck1 := hupd (Z (.ptr n 0)) x ld9 (fun b o e => by cases e; exact .inr rfl)
    have ck2 := hupd p0 (.int .u8 c0.toNat) lp0 (fun b o e => by
      subst e
      rcases rx9.rd with ⟨h0, _⟩ | ⟨c, o', cap, w, rows, rfl, _⟩
      · omega
      · have h2 := hox c rfl
        simp only [aIndexSl] at ix0
        split at ix0
        · cases ix0; exact .inl h2
        · cases ix0)
    have hkind : aLoad1 (Z (.ptr (n + 4) 0)) s12.get = some (I .i64 (c0.toNat : Int)) := aLoad1_of b12 (by rw [he0]; rfl)
    have w0 : IntKind.i64.wrap (c0.toNat : Int) = (c0.toNat : Int) := wrap_in _ (by have := c0.toNat_lt; omega) (by have := c0.toNat_lt; omega)
    have hne : ¬ ((bs.length : Int) = 0) := by omega
    have hget : getE bs = match getFields bs c0 with
      | none => none
      | some (e, bad) => if bad = false ∧ putE e = some bs then some e else none := by rw [hbs]; rfl
    rw [← hbs, hget]
    have nxq : ∀ (u : St) (a : Nat) (bad : Bool) (e : Ent) (most : Nat), (Cur s u x bs a bad ∧ u.size = n + 5 ∧ u.get (n + 4) = some (.cells true (cE e))) → most < 2 ^ 63 → ∃ t, R (d + 9) 53 [I .u64 (most : Nat), Z (.ptr n 0), Z (.ptr (n + 2) 0), Z (.ptr (n + 3) 0)] u = some (I .i64 ((nxt bs most a bad).1 : Nat), t) ∧
        (Cur s t x bs (nxt bs most a bad).2.1 (nxt bs most a bad).2.2 ∧ t.size = n + 5 ∧ t.get (n + 4) = some (.cells true (cE e))) := fun u a bad e most hq hm => by
      obtain ⟨t, e1, c1, z, k⟩ := nxr u a bad most hq.1 hm
      exact ⟨t, e1, c1, by rw [z]; exact hq.2.1, by rw [k _ (by omega) (by omega)]; exact hq.2.2⟩
    have stq : ∀ (u : St) (a : Nat) (bad : Bool) (e e' : Ent) (off : Nat) (val : S), (Cur s u x bs a bad ∧ u.size = n + 5 ∧ u.get (n + 4) = some (.cells true (cE e))) → setRange (cE e) off [val] = cE e' → off < 8 → ∃ t, aStore 1 (Z (.ptr (n + 4) off)) (Z val) u = some (tt, t) ∧
        (Cur s t x bs a bad ∧ t.size = n + 5 ∧ t.get (n + 4) = some (.cells true (cE e'))) := fun u a bad e e' off val hq hs ho => by
      have st := aStore1_of (x := val) hq.2.2 (by simpa [cE] using ho)
      rw [hs] at st
      exact ⟨_, st, hq.1.set (by omega) (by have := hq.2.1; omega) _, by simpa using hq.2.1, St.get_set_same _ _ _⟩
    have finq : ∀ (u : St) (a : Nat) (bad : Bool) (e : Ent), (Cur s u x bs a bad ∧ u.size = n + 5 ∧ u.get (n + 4) = some (.cells true (cE e))) → EWf e → ∃ τ, getTail (R (d + 9)) [Z (.ptr n 0), Z (.ptr (n + 1) 0), Z (.ptr (n + 3) 0), Z (.ptr (n + 4) 0)] u = some (resE (if bad = false ∧ putE e = some bs then some e else none), τ) ∧ Gr s τ := fun u a bad e hq hw => by
      have := tail_run d hq.1 hx hox (by rw [← hn]; exact hq.2.1) (by rw [← hn]; exact hq.2.2) hw
      rw [← hn] at this
      exact this
    have q12 : Cur s s12 x bs P.2.1 P.2.2 ∧ s12.size = n + 5 ∧ s12.get (n + 4) = some (.cells true (cE e0)) := ⟨cur12, z12, b12⟩
    have hw0 : EWf e0 := by rw [he0]; exact ⟨Int.le_refl 0, (by decide : (0 : Int) < 4294967296)⟩
    obtain ⟨C, hC⟩ : ∃ C, C = (c0.toNat : Int) := ⟨_, rfl⟩
    rw [← hC] at lp0 ag0 hkind w0
    simp only [aLenSl] at hlen
    have hlen' := hx.lenB
    have hnd : ¬ bs = [] := fun e => by rw [e] at hpos; simp at hpos
    by_cases k1 : c0.toNat = 1
    · have d1 : decide (C = 1) = true := decide_eq_true (by omega)
      obtain ⟨s13, e13, q13⟩ := nxq s12 _ _ _ 1073741824 q12 (by decide)
      obtain ⟨I1, hI1⟩ : ∃ I1, I1 = nxt bs 1073741824 P.2.1 P.2.2 := ⟨_, rfl⟩
      rw [← hI1] at e13 q13
      obtain ⟨s14, e14, q14⟩ := nxq s13 _ _ _ 4 q13 (by decide)
      obtain ⟨T1, hT1⟩ : ∃ T1, T1 = nxt bs 4 I1.2.1 I1.2.2 := ⟨_, rfl⟩
      rw [← hT1] at e14 q14
      obtain ⟨s15, e15, q15⟩ := stq s14 _ _ _ { e0 with i := (I1.1 : Nat) } 2 (.int .i64 (I1.1 : Nat)) q14 rfl (by omega)
      obtain ⟨s16, e16, q16⟩ := stq s15 _ _ _ { e0 with i := (I1.1 : Nat), t := (T1.1 : Nat) } 3 (.int .i64 (T1.1 : Nat)) q15 rfl (by omega)
      obtain ⟨s17, e17, q17⟩ := nxq s16 _ _ _ 1099511627776 q16 (by decide)
      obtain ⟨F1, hF1⟩ : ∃ F1, F1 = nxt bs 1099511627776 T1.2.1 T1.2.2 := ⟨_, rfl⟩
      rw [← hF1] at e17 q17
      obtain ⟨s18, e18, q18⟩ := nxq s17 _ _ _ 1099511627776 q17 (by decide)
      obtain ⟨O1, hO1⟩ : ∃ O1, O1 = nxt bs 1099511627776 F1.2.1 F1.2.2 := ⟨_, rfl⟩
      rw [← hO1] at e18 q18
      obtain ⟨s19, e19, q19⟩ := stq s18 _ _ _ { e0 with i := (I1.1 : Nat), t := (T1.1 : Nat), f := (F1.1 : Nat) } 4 (.int .i64 (F1.1 : Nat)) q18 rfl (by omega)
      obtain ⟨s20, e20, q20⟩ := stq s19 _ _ _ { e0 with i := (I1.1 : Nat), t := (T1.1 : Nat), f := (F1.1 : Nat), o := (O1.1 : Nat) } 5 (.int .i64 (O1.1 : Nat)) q19 rfl (by omega)
      obtain ⟨s21, e21, q21⟩ := nxq s20 _ _ _ 4294967295 q20 (by decide)
      obtain ⟨U1, hU1⟩ : ∃ U1, U1 = nxt bs 4294967295 O1.2.1 O1.2.2 := ⟨_, rfl⟩
      have hUl : U1.1 ≤ 4294967295 := by rw [hU1]; exact nxt_le
      rw [← hU1] at e21 q21
      have wU : IntKind.u32.wrap (U1.1 : Int) = (U1.1 : Int) := by rw [wrap32]; omega
      obtain ⟨s22, e22, q22⟩ := stq s21 _ _ _ { e0 with i := (I1.1 : Nat), t := (T1.1 : Nat), f := (F1.1 : Nat), o := (O1.1 : Nat), u := (U1.1 : Nat) } 6 (.int .u32 (U1.1 : Nat)) q21 rfl (by omega)
      obtain ⟨τ, et, gt⟩ := finq s22 _ _ _ q22 ⟨by show (0 : Int) ≤ (U1.1 : Nat); omega, by show ((U1.1 : Nat) : Int) < 4294967296; omega⟩
      have hres : getFields bs c0 = some ({ e0 with i := (I1.1 : Nat), t := (T1.1 : Nat), f := (F1.1 : Nat), o := (O1.1 : Nat), u := (U1.1 : Nat) }, U1.2.2) := by
        unfold getFields
        rw [if_pos k1]
        simp only [← hP, ← hI1, ← hT1, ← hF1, ← hO1, ← hU1, he0]
      rw [hres]
      refine ⟨τ, ?_, gt⟩
      clear nxq stq finq nxr hupd q13 q14 q15 q16 q17 q18 q19 q20 q21 q22
      generalize resE (if U1.2.2 = false ∧ putE { e0 with i := (I1.1 : Nat), t := (T1.1 : Nat), f := (F1.1 : Nat), o := (O1.1 : Nat), u := (U1.1 : Nat) } = some bs then some { e0 with i := (I1.1 : Nat), t := (T1.1 : Nat), f := (F1.1 : Nat), o := (O1.1 : Nat), u := (U1.1 : Nat) } else none) = RES at *
      unfold getTail at et
      generalize R (d + 9) = r at *
      generalize ((P.1 : Nat) : Int) = PV at *
      generalize ((I1.1 : Nat) : Int) = IV at *
      generalize ((T1.1 : Nat) : Int) = TV at *
      generalize ((F1.1 : Nat) : Int) = FV at *
      generalize ((O1.1 : Nat) : Int) = OV at *
      generalize ((U1.1 : Nat) : Int) = UV at *
      have e10' : r 53 [I .u64 1073741824, Z (.ptr n 0), Z (.ptr (n + 2) 0), Z (.ptr (n + 3) 0)] s9 = some (I .i64 PV, s10) := e10
      have e13' : r 53 [I .u64 1073741824, Z (.ptr n 0), Z (.ptr (n + 2) 0), Z (.ptr (n + 3) 0)] s12 = some (I .i64 IV, s13) := e13
      have e14' : r 53 [I .u64 4, Z (.ptr n 0), Z (.ptr (n + 2) 0), Z (.ptr (n + 3) 0)] s13 = some (I .i64 TV, s14) := e14
      have e17' : r 53 [I .u64 1099511627776, Z (.ptr n 0), Z (.ptr (n + 2) 0), Z (.ptr (n + 3) 0)] s16 = some (I .i64 FV, s17) := e17
      have e18' : r 53 [I .u64 1099511627776, Z (.ptr n 0), Z (.ptr (n + 2) 0), Z (.ptr (n + 3) 0)] s17 = some (I .i64 OV, s18) := e18
      have e21' : r 53 [I .u64 4294967295, Z (.ptr n 0), Z (.ptr (n + 2) 0), Z (.ptr (n + 3) 0)] s20 = some (I .i64 UV, s21) := e21
      simpa [nw1, nw2, ld1, hlen', hnd, nw6, nw7, st8, st9, clo, ld9, ix0, lp0, w0, dy, e10', ag0, nw11, st12, ck1, ck2, hkind, d1, e13', e14', e15, e16, e17', e18', e19, e20, e21', wU, e22] using et
    · have d1 : decide (C = 1) = false := decide_eq_false (by omega)
      by_cases k2 : c0.toNat = 2
      · have d2 : decide (C = 2) = true := decide_eq_true (by omega)
        obtain ⟨s13, e13, q13⟩ := nxq s12 _ _ _ 1073741824 q12 (by decide)
        obtain ⟨I1, hI1⟩ : ∃ I1, I1 = nxt bs 1073741824 P.2.1 P.2.2 := ⟨_, rfl⟩
        rw [← hI1] at e13 q13
        obtain ⟨s14, e14, q14⟩ := stq s13 _ _ _ { e0 with i := (I1.1 : Nat) } 2 (.int .i64 (I1.1 : Nat)) q13 rfl (by omega)
        obtain ⟨τ, et, gt⟩ := finq s14 _ _ _ q14 hw0
        have hres : getFields bs c0 = some ({ e0 with i := (I1.1 : Nat) }, I1.2.2) := by
          unfold getFields
          rw [if_neg k1, if_pos k2]
          simp only [← hP, ← hI1, he0]
        rw [hres]
        refine ⟨τ, ?_, gt⟩
        clear nxq stq finq nxr hupd q13 q14
        generalize resE (if I1.2.2 = false ∧ putE { e0 with i := (I1.1 : Nat) } = some bs then some { e0 with i := (I1.1 : Nat) } else none) = RES at *
        unfold getTail at et
        generalize R (d + 9) = r at *
        generalize ((P.1 : Nat) : Int) = PV at *
        generalize ((I1.1 : Nat) : Int) = IV at *
        have e10' : r 53 [I .u64 1073741824, Z (.ptr n 0), Z (.ptr (n + 2) 0), Z (.ptr (n + 3) 0)] s9 = some (I .i64 PV, s10) := e10
        have e13' : r 53 [I .u64 1073741824, Z (.ptr n 0), Z (.ptr (n + 2) 0), Z (.ptr (n + 3) 0)] s12 = some (I .i64 IV, s13) := e13
        simpa [nw1, nw2, ld1, hlen', hnd, nw6, nw7, st8, st9, clo, ld9, ix0, lp0, w0, dy, e10', ag0, nw11, st12, ck1, ck2, hkind, d1, d2, e13', e14] using et
      · have d2 : decide (C = 2) = false := decide_eq_false (by omega)
        by_cases k4 : c0.toNat = 4
        · have d4 : decide (C = 4) = true := decide_eq_true (by omega)
          obtain ⟨s13, e13, q13⟩ := nxq s12 _ _ _ 300 q12 (by decide)
          obtain ⟨M1, hM1⟩ : ∃ M1, M1 = nxt bs 300 P.2.1 P.2.2 := ⟨_, rfl⟩
          have hMl : M1.1 ≤ 300 := by rw [hM1]; exact nxt_le
          rw [← hM1] at e13 q13
          have hat := q13.1.le
          have lb : aLoad1 (Z (.ptr (n + 3) 0)) s13.get = some (B M1.2.2) := by rw [hn]; exact aLoad1_of q13.1.c5 rfl
          have lx : aLoad1 (Z (.ptr n 0)) s13.get = some (Z x) := by rw [hn]; exact aLoad1_of q13.1.c1 rfl
          have la : aLoad1 (Z (.ptr (n + 2) 0)) s13.get = some (I .i64 (M1.2.1 : Nat)) := by rw [hn]; exact aLoad1_of q13.1.c4 rfl
          have l2 : s13.get (n + 1) = some (.cells true (cE ent0)) := by rw [hn]; exact q13.1.c2
          have wsub : IntKind.i64.wrap ((bs.length : Int) - ((M1.2.1 : Nat) : Int)) = (bs.length : Int) - ((M1.2.1 : Nat) : Int) := wrap_in _ (by omega) (by omega)
          have wadd : IntKind.i64.wrap (((M1.2.1 : Nat) : Int) + ((M1.1 : Nat) : Int)) = ((M1.2.1 + M1.1 : Nat) : Int) := by rw [wrap_in _ (by omega) (by omega)]; omega
          have e10' : R (d + 9) 53 [I .u64 1073741824, Z (.ptr n 0), Z (.ptr (n + 2) 0), Z (.ptr (n + 3) 0)] s9 = some (I .i64 ((P.1 : Nat) : Int), s10) := e10
          have e13' : R (d + 9) 53 [I .u64 300, Z (.ptr n 0), Z (.ptr (n + 2) 0), Z (.ptr (n + 3) 0)] s12 = some (I .i64 ((M1.1 : Nat) : Int), s13) := e13
          by_cases hbad : M1.2.2 = true ∨ bs.length < M1.2.1 + M1.1
          · have hres : getFields bs c0 = none := by
              unfold getFields
              rw [if_neg k1, if_neg k2, if_pos k4]
              simp only [← hP, ← hM1]
              rw [if_pos hbad]
            rw [hres]
            have st := store8 (e := ent0) l2 rfl
            have ld := load8 (g := (s13.set (n + 1) (.cells true (cE ent0))).get) (i := n + 1) (e := ent0) (St.get_set_same _ _ _)
            refine ⟨s13.set (n + 1) (.cells true (cE ent0)), ?_, ⟨St.wf_set q13.1.gr.wf (by have := q13.2.1; omega) _, by simpa using q13.1.gr.2.1, fun b hb => by rw [St.get_set_ne _ _ (by omega)]; exact q13.1.gr.2.2 b hb⟩⟩
            clear nxq stq finq nxr hupd q13
            generalize s13.set (n + 1) (.cells true (cE ent0)) = s14 at *
            generalize R (d + 9) = r at *
            cases hb2 : M1.2.2 with
            | true =>
              rw [hb2] at lb
              generalize ((P.1 : Nat) : Int) = PV at *
              generalize ((M1.1 : Nat) : Int) = MV at *
              simp [nw1, nw2, ld1, hlen', hnd, nw6, nw7, st8, st9, clo, ld9, ix0, lp0, w0, dy, e10', ag0, nw11, st12, ck1, ck2, hkind, d1, d2, d4, e13', lb, gtt, agg8, st, ld, rC, rT, retT, allV]
            | false =>
              rw [hb2] at lb hbad
              have hgt : (bs.length : Int) - ((M1.2.1 : Nat) : Int) < ((M1.1 : Nat) : Int) := by
                rcases hbad with h | h
                · cases h
                · omega
              have dgt : decide ((bs.length : Int) - ((M1.2.1 : Nat) : Int) < ((M1.1 : Nat) : Int)) = true := decide_eq_true hgt
              generalize ((P.1 : Nat) : Int) = PV at *
              generalize ((M1.1 : Nat) : Int) = MV at *
              generalize ((M1.2.1 : Nat) : Int) = AV at *
              simp [nw1, nw2, ld1, hlen', hnd, nw6, nw7, st8, st9, clo, ld9, ix0, lp0, w0, dy, e10', ag0, nw11, st12, ck1, ck2, hkind, d1, d2, d4, e13', lb, lx, la, wsub, hgt, agg8, st, ld, rC, rT, retT, allV]
          · have hb2 : M1.2.2 = false := by
              cases h : M1.2.2 with
              | false => rfl
              | true => exact absurd (.inl h) hbad
            have hle : M1.2.1 + M1.1 ≤ bs.length := by
              apply Nat.le_of_not_lt
              exact fun h => hbad (.inr h)
            have hgt : ¬ ((bs.length : Int) - ((M1.2.1 : Nat) : Int) < ((M1.1 : Nat) : Int)) := by omega
            rw [hb2] at lb
            have rx13 : RB s13 x bs := hx.gr hox q13.1.gr
            obtain ⟨y, pc, ry, _⟩ := rx13.piece (lo := M1.2.1) (hi := M1.2.1 + M1.1) (by omega) hle
            have hpl : M1.2.1 + M1.1 - M1.2.1 = M1.1 := by omega
            rw [hpl, Nat.mul_one, Nat.mul_one, U_drop, U_take] at ry
            have ry' : RB s13 y ((bs.drop M1.2.1).take M1.1) := by
              have : ((bs.drop M1.2.1).take M1.1).length = M1.1 := by rw [List.length_take, List.length_drop]; omega
              unfold RB
              rw [this]
              exact ry
            have hstr := ry'.str
            obtain ⟨s14, e14, q14⟩ := stq s13 _ _ _ { e0 with x := (bs.drop M1.2.1).take M1.1 } 7 (.str ((bs.drop M1.2.1).take M1.1)) q13 rfl (by omega)
            obtain ⟨τ, et, gt⟩ := finq s14 _ _ _ q14 hw0
            have hres : getFields bs c0 = some ({ e0 with x := (bs.drop M1.2.1).take M1.1 }, M1.2.2) := by
              unfold getFields
              rw [if_neg k1, if_neg k2, if_pos k4]
              simp only [← hP, ← hM1]
              rw [if_neg hbad, he0]
            rw [hres]
            refine ⟨τ, ?_, gt⟩
            clear nxq stq finq nxr hupd q13 q14
            generalize resE (if M1.2.2 = false ∧ putE { e0 with x := (bs.drop M1.2.1).take M1.1 } = some bs then some { e0 with x := (bs.drop M1.2.1).take M1.1 } else none) = RES at *
            unfold getTail at et
            generalize R (d + 9) = r at *
            generalize (bs.drop M1.2.1).take M1.1 = XX at *
            generalize ((P.1 : Nat) : Int) = PV at *
            generalize ((M1.2.1 + M1.1 : Nat) : Int) = BV at *
            generalize ((M1.1 : Nat) : Int) = MV at *
            generalize ((M1.2.1 : Nat) : Int) = AV at *
            simpa [nw1, nw2, ld1, hlen', hnd, nw6, nw7, st8, st9, clo, ld9, ix0, lp0, w0, dy, e10', ag0, nw11, st12, ck1, ck2, hkind, d1, d2, d4, e13', lb, lx, la, wsub, hgt, wadd, pc, hstr, e14] using et
        · have d4 : decide (C = 4) = false := decide_eq_false (by omega)
          obtain ⟨τ, et, gt⟩ := finq s12 _ _ _ q12 hw0
          have hres : getFields bs c0 = some (e0, P.2.2) := by
            unfold getFields
            rw [if_neg k1, if_neg k2, if_neg k4]
            simp only [← hP, he0]
          rw [hres]
          refine ⟨τ, ?_, gt⟩
          clear nxq stq finq nxr hupd
          generalize resE (if P.2.2 = false ∧ putE e0 = some bs then some e0 else none) = RES at *
          unfold getTail at et
          generalize R (d + 9) = r at *
          generalize ((P.1 : Nat) : Int) = PV at *
          have e10' : r 53 [I .u64 1073741824, Z (.ptr n 0), Z (.ptr (n + 2) 0), Z (.ptr (n + 3) 0)] s9 = some (I .i64 PV, s10) := e10
          simpa [nw1, nw2, ld1, hlen', hnd, nw6, nw7, st8, st9, clo, ld9, ix0, lp0, w0, dy, e10', ag0, nw11, st12, ck1, ck2, hkind, d1, d2, d4] using et
end
end Go.Proofs.YtlhbidbdmdcdeaaGreatDoor

/-
  Frames: what log.Wrap, Open, Frame, All, Read, Meet and Front compute, in any store. No conditions but those named in each line.
-/
namespace Go.Proofs.YtlhbidbdmdcdeaaGreatDoor
open Go Go.Abs Go.Abs.F
set_option linter.unusedVariables false

theorem sumB_append (n : Nat) : ∀ a b : Bs, sumB n (a ++ b) = sumB (sumB n a) b
  | [], b => rfl
  | c :: a, b => sumB_append _ a b

def wrapB (bs : Bs) : Bs := vput bs.length ++ four (sumB 1 (vput bs.length ++ bs)) ++ bs
def openB (bs : Bs) (at_ : Nat) : Option (Bs × Nat) := match vget bs at_ with
  | none => none
  | some (n, to) => if bs.length < to + 4 ∨ bs.length - to - 4 < n then none else
    if (bs.drop at_).take (to + 4 + n - at_) = wrapB ((bs.drop (to + 4)).take n) then some ((bs.drop (to + 4)).take n, to + 4 + n) else none
def frameE (e : Ent) : Option Bs := if mayE e then some (wrapB (putB e)) else none
def framesB : List Ent → Bs
  | [] => []
  | e :: r => wrapB (putB e) ++ framesB r
def allP (l : List Ent) : Bs × Int := if l.all mayE then (if l.length ≤ 2000 then (framesB l, 0) else ([], 8)) else ([], 1)
def readL (bs : Bs) : Nat → Nat → List Ent → List Ent × Nat
  | 0, at_, acc => (acc, at_)
  | f + 1, at_, acc => match openB bs at_ with
    | none => (acc, at_)
    | some (x, to) => match getE x with
      | none => (acc, at_)
      | some e => readL bs f to (acc ++ [e])
def readP (bs : Bs) : List Ent × Nat := readL bs 2000 0 []
def meetP : List Ent → List Ent → Nat
  | a :: r, b :: t => if a = b then meetP r t + 1 else 0
  | _, _ => 0

/-- A slice of entries. -/
abbrev RE (s : St) (x : S) (l : List Ent) : Prop := Rd 8 s x l.length (cells cE l)
abbrev FE (s0 s : St) (x : S) (l : List Ent) : Prop := Fr 8 s0 s x l.length (cells cE l)

section
variable {s t : St} {x y : S} {bs cs : Bs} {i : Nat} {l m : List Ent}

theorem RE.atE (h : RE s x l) {j : Nat} {n : Int} {e : Ent} (hn : n = j) (he : l[j]? = some e) : ∃ p, aIndexSl 8 (Z x) (I .i64 n) = some p ∧ aLoadN 8 p s.get = some (AE e) := by
  obtain ⟨c, p, h1, _, h3⟩ := Rd.at h hn (List.getElem?_eq_some_iff.1 he).1
  rw [cells_row cE_len he] at h3
  exact ⟨_, h1, h3⟩

theorem FE.lit {s0 : St} {e : Ent} (h : FE s0 s x l) (hl : l.length ≤ 1000000) :
    ∃ x' t s', aNew s (nSlice 1 (aFill [.int .i64 0, .int .i64 0, .int .i64 0, .int .i64 0, .int .i64 0, .int .i64 0, .int .u32 0, .str []] [(0, 8, AE e)])) = some (Z (.sl s.size 0 1 (.known 1)), s') ∧ aAppend 8 72 (Z x) (Z (.sl s.size 0 1 (.known 1))) s' = some (Z x', t) ∧ FE s0 t x' (l ++ [e]) ∧ s.size ≤ t.size := by
  have L := Fr.lit 8 h.gr.1 (n := 1) (vs := cells cE [e]) (by simp [cE])
  obtain ⟨x', t, e1, f, hz, k⟩ := (h.gr' L.gr).append (by_ := 72) (by omega) L.rd.src (by simp [cE]) (by omega)
  refine ⟨x', t, _, rfl, e1, ?_, Nat.le_trans L.gr.2.1 hz⟩
  unfold FE
  rw [cells_append, List.length_append]
  exact f

theorem more_run (d : Nat) {q0 : Nat} (hq0 : q0 < 4294967291) (h : RB s x bs) (hl : bs.length ≤ 8000) : R (d + 1) 68 [I .u32 (q0 : Nat), Z x] s = some (I .u32 (sumB q0 bs), s) := by
  rw [f68_run]
  unfold f68
  have hll := h.lenB
  obtain ⟨j, τ, lp, hj, hτ⟩ := loops_inv (f := f68_l1 (R d) 8192) (fun q v u => ∃ k n : Nat, q + k = bs.length ∧ v = [I .u64 n, Z x, I .i64 bs.length, I .i64 k] ∧ u = s ∧ n < 4294967291 ∧ sumB n (bs.drop k) = sumB q0 bs)
    (fun j u => j = .exit 0 [I .u64 (sumB q0 bs)] ∧ u = s) (by
    rintro q v u ⟨k, n, hk, rfl, rfl, hn, hg⟩
    by_cases hkl : k < bs.length
    · left
      have hc : bs[k]? = some bs[k] := List.getElem?_eq_getElem hkl
      have hd : bs.drop k = bs[k] :: bs.drop (k + 1) := List.drop_eq_getElem_cons hkl
      rw [hd] at hg
      obtain ⟨p, ix, ld⟩ := h.atB (n := (k : Int)) rfl hc
      have hcb : bs[k].toNat < 256 := bs[k].toNat_lt
      obtain ⟨A1, A2, A3, A4, hA4, m1, m2, m3, m4⟩ : ∃ A1 A2 A3 A4 : Int, A4 = (((n * 257 + bs[k].toNat + 1) % 4294967291 : Nat) : Int) ∧ aBin .mul (I .u64 n) (I .u64 257) = some (I .u64 A1) ∧ aBin .add (I .u64 A1) (I .u64 bs[k].toNat) = some (I .u64 A2) ∧
          aBin .add (I .u64 A2) (I .u64 1) = some (I .u64 A3) ∧ aBin .rem (I .u64 A3) (I .u64 4294967291) = some (I .u64 A4) := ⟨_, _, _, _, rfl, More.step n bs[k].toNat hn hcb u⟩
      have hw : IntKind.u64.wrap (bs[k].toNat : Int) = (bs[k].toNat : Int) := wrap64 _ (by omega)
      have w1 : IntKind.i64.wrap ((k : Int) + 1) = ((k + 1 : Nat) : Int) := by rw [wrap_in _ (by omega) (by omega)]; omega
      have c0 : ((k : Int) < (bs.length : Int)) = True := eq_true (by omega)
      refine ⟨[I .u64 (((n * 257 + bs[k].toNat + 1) % 4294967291 : Nat)), Z x, I .i64 bs.length, I .i64 ((k + 1 : Nat) : Int)], u, q - 1, ?_, by omega, k + 1, _, by omega, rfl, rfl, Nat.mod_lt _ (by decide), hg⟩
      unfold f68_l1
      generalize ((k + 1 : Nat) : Int) = K1 at w1 ⊢
      rw [← hA4]
      generalize (bs[k].toNat : Int) = C at m2 ld hw
      generalize (k : Int) = K at w1 ix c0 ⊢
      simp only [jn_normal, bd_some, List.getD_cons_zero, List.getD_cons_succ, lss_int, br_true, decide_true, c0, ix, ld, m1, m2, m3, m4, aConv_int, hw, add_int, w1]
    · right
      have hk' : k = bs.length := by omega
      have c0 : ¬ ((k : Int) < (bs.length : Int)) := by omega
      have hg' : n = sumB q0 bs := by
        rw [List.drop_eq_nil_of_le (by omega)] at hg
        exact hg
      refine ⟨.exit 0 [I .u64 (sumB q0 bs)], u, ?_, (fun v hv => by cases hv), rfl, rfl⟩
      unfold f68_l1
      rw [hg']
      simp [c0]) 8192 bs.length [I .u64 (q0 : Nat), Z x, I .i64 bs.length, I .i64 0] s ⟨0, q0, rfl, rfl, rfl, hq0, rfl⟩ (by omega)
  subst hj; subst hτ
  have hlt := sumB_lt bs q0 hq0
  have h32 : IntKind.u32.wrap (sumB q0 bs : Int) = (sumB q0 bs : Int) := by rw [wrap32, Nat.mod_eq_of_lt (by omega)]
  have e1 : aConv .u64 (I .u32 (q0 : Nat)) = some (I .u64 (q0 : Nat)) := by rw [aConv_int, wrap64 _ (by omega)]
  have e2 : aBin .rem (I .u64 (q0 : Nat)) (I .u64 4294967291) = some (I .u64 (q0 : Nat)) := by
    rw [rem_int _ _ _ (by decide), Int.tmod_eq_emod_of_nonneg (by omega), Int.emod_eq_of_lt (by omega) (by omega)]
  simp [e1, e2, hll, lp, h32]

theorem low_run (d : Nat) (wf : s.wf) (q : Nat) : ∃ y t, R (d + 1) 67 [I .u32 q] s = some (Z y, t) ∧ FB s t y (four q) := by
  rw [f67_run]
  unfold f67
  have nw := lit4 s (q % 256) (q / 2 ^ 8 % 256) (q / 2 ^ 16 % 256) (q / 2 ^ 24 % 256)
  have hU : U (four q) = [.int .u8 (q % 256 : Nat), .int .u8 (q / 2 ^ 8 % 256 : Nat), .int .u8 (q / 2 ^ 16 % 256 : Nat), .int .u8 (q / 2 ^ 24 % 256 : Nat)] := by
    simp only [U, four, List.map_cons, List.map_nil, byte_nat]
  rw [← hU] at nw
  have c0 := wrap8 q
  have c1 := wrap8 (q / 2 ^ 8)
  have c2 := wrap8 (q / 2 ^ 16)
  have c3 := wrap8 (q / 2 ^ 24)
  have r1 : aBin .shr (I .u32 q) (I .u64 8) = some (I .u32 ((q / 2 ^ 8 : Nat))) := shr_nat .u32 q 8 (by decide)
  have r2 : aBin .shr (I .u32 q) (I .u64 16) = some (I .u32 ((q / 2 ^ 16 : Nat))) := shr_nat .u32 q 16 (by decide)
  have r3 : aBin .shr (I .u32 q) (I .u64 24) = some (I .u32 ((q / 2 ^ 24 : Nat))) := shr_nat .u32 q 24 (by decide)
  refine ⟨_, _, ?_, Fr.lit 1 wf (n := 4) (vs := U (four q)) rfl⟩
  generalize s.push (.cells true (U (four q))) = t at nw ⊢
  generalize ((q / 2 ^ 8 % 256 : Nat) : Int) = Q1 at nw c1
  generalize ((q / 2 ^ 16 % 256 : Nat) : Int) = Q2 at nw c2
  generalize ((q / 2 ^ 24 % 256 : Nat) : Int) = Q3 at nw c3
  generalize ((q % 256 : Nat) : Int) = Q0 at nw c0
  generalize ((q / 2 ^ 8 : Nat) : Int) = P1 at r1 c1
  generalize ((q / 2 ^ 16 : Nat) : Int) = P2 at r2 c2
  generalize ((q / 2 ^ 24 : Nat) : Int) = P3 at r3 c3
  generalize (q : Int) = Q at *
  simp [c0, c1, c2, c3, r1, r2, r3, nw]

def lenSum : List Bs → Nat
  | [] => 0
  | b :: r => b.length + lenSum r
theorem lenSum_flat : ∀ l : List Bs, l.flatten.length = lenSum l
  | [] => rfl
  | b :: r => by simp [lenSum, lenSum_flat r]
theorem lenSum_snoc : ∀ (l : List Bs) (b : Bs), lenSum (l ++ [b]) = lenSum l + b.length
  | [], b => by simp [lenSum]
  | a :: r, b => by simp [lenSum, lenSum_snoc r b]; omega
theorem lenSum_take (l : List Bs) (k : Nat) : lenSum (l.take k) ≤ lenSum l := by
  induction l generalizing k with
  | nil => simp [lenSum]
  | cons a r ih =>
    cases k with
    | zero => simp [lenSum]
    | succ k => have := ih k; simp [lenSum]; omega

theorem concat_run (d : Nat) (wf : s.wf) {ys : List S} {bss : List Bs} (hx : Rd 1 s x ys.length ys) (hox : ∀ c, own x = some c → c < s.size) (hlen : ys.length = bss.length) (hys : ∀ (j : Nat) y b, ys[j]? = some y → bss[j]? = some b → RB s y b ∧ ∀ c, own y = some c → c < s.size)
    (h0 : 0 < lenSum bss) (hT : lenSum bss ≤ 100000) (hl : ys.length ≤ 100) : ∃ z t, R (d + 2) 66 [Z x] s = some (Z z, t) ∧ FB s t z bss.flatten := by
  rw [f66_run]
  unfold f66
  have hll := hx.lens
  -- the sizes
  obtain ⟨j, τ, lp, hj, hτ⟩ := loops_inv (f := f66_l1 (R (d + 1)) 8192) (fun q v u => ∃ k : Nat, q + k = ys.length ∧ v = [Z x, I .i64 (lenSum (bss.take k) : Nat), Z x, I .i64 ys.length, I .i64 k] ∧ u = s)
    (fun j u => j = .exit 0 [Z x, I .i64 (lenSum bss : Nat)] ∧ u = s) (by
    rintro q v u ⟨k, hk, rfl, rfl⟩
    by_cases hkl : k < ys.length
    · left
      have hc : ys[k]? = some ys[k] := List.getElem?_eq_getElem hkl
      have hb : bss[k]? = some (bss[k]'(by omega)) := List.getElem?_eq_getElem (by omega)
      obtain ⟨p, ix, ld⟩ := Rd.at1 hx (i := (k : Int)) rfl hc
      obtain ⟨ry, _⟩ := hys k _ _ hc hb
      have hyl := ry.lenB
      have htk : bss.take (k + 1) = bss.take k ++ [bss[k]'(by omega)] := by rw [List.take_add_one, hb]; rfl
      have h1 := lenSum_take bss (k + 1)
      have hs : lenSum (bss.take (k + 1)) = lenSum (bss.take k) + (bss[k]'(by omega)).length := by rw [htk, lenSum_snoc]
      have c0 : (k : Int) < (ys.length : Int) := by omega
      have w1 : IntKind.i64.wrap ((k : Int) + 1) = ((k + 1 : Nat) : Int) := by rw [wrap_in _ (by omega) (by omega)]; omega
      have wa : IntKind.i64.wrap ((lenSum (bss.take k) : Nat) + ((bss[k]'(by omega)).length : Int)) = ((lenSum (bss.take (k + 1)) : Nat) : Int) := by rw [wrap_in _ (by omega) (by omega)]; omega
      have c1 : ¬ ((lenSum (bss.take (k + 1)) : Nat) : Int) < 0 := by omega
      refine ⟨[Z x, I .i64 (lenSum (bss.take (k + 1)) : Nat), Z x, I .i64 ys.length, I .i64 ((k + 1 : Nat) : Int)], u, q - 1, ?_, by omega, k + 1, by omega, rfl, rfl⟩
      unfold f66_l1
      generalize ((k + 1 : Nat) : Int) = K1 at w1 ⊢
      generalize ((lenSum (bss.take (k + 1)) : Nat) : Int) = S1 at wa c1 ⊢
      generalize ((lenSum (bss.take k) : Nat) : Int) = S0 at wa ⊢
      generalize ((bss[k]'(by omega)).length : Int) = B1 at *
      generalize (k : Int) = K at *
      generalize (ys.length : Int) = L at *
      simp [c0, ix, ld, hyl, wa, c1, w1]
    · right
      have hk' : k = ys.length := by omega
      subst hk'
      rw [hlen, List.take_length]
      refine ⟨.exit 0 [Z x, I .i64 (lenSum bss : Nat)], u, ?_, (fun v hv => by cases hv), rfl, rfl⟩
      unfold f66_l1
      simp) 8192 ys.length [Z x, I .i64 0, Z x, I .i64 ys.length, I .i64 0] s ⟨0, rfl, by simp [lenSum], rfl⟩ (by omega)
  subst hτ; subst hj
  -- a new row
  obtain ⟨TN, hTd⟩ : ∃ TN, TN = lenSum bss := ⟨_, rfl⟩
  rw [← hTd] at lp h0 hT
  obtain ⟨s1, hs1⟩ : ∃ s1, s1 = τ.push (.cells true (zeros TN [.int .u8 0])) := ⟨_, rfl⟩
  have g1 : Gr τ s1 := by rw [hs1]; exact Gr.push wf _
  have hg : R (d + 1) 86 [Z .nils, I .i64 (TN : Nat)] τ = some (Z (.sl τ.size 0 0 (.grown 1)), s1) := by
    rw [f86_run]
    unfold f86
    have c0 : ¬ ((TN : Nat) : Int) < 0 := by omega
    have c1 : (0 : Int) < ((TN : Nat) : Int) := by omega
    have w0 : IntKind.i64.wrap 0 = 0 := rfl
    have wT : IntKind.i64.wrap ((TN : Nat) : Int) = ((TN : Nat) : Int) := wrap_in _ (by omega) (by omega)
    have cap : aCap (Z .nils) = some (I .i64 0) := rfl
    have pc0 : aPieceSl 1 (Z .nils) none (some (I .i64 0)) none = some (Z .nils) := rfl
    have gr : aGrow 1 1 [.int .u8 0] (Z .nils) (I .i64 ((TN : Nat) : Int)) τ = some (Z (.sl τ.size 0 TN (.grown 1)), s1) := by
      simp only [aGrow, Int.toNat_natCast, hs1]
      rw [if_pos ⟨c1, by omega, by decide⟩]
    have pc1 : aPieceSl 1 (Z (.sl τ.size 0 TN (.grown 1))) none (some (I .i64 0)) none = some (Z (.sl τ.size 0 0 (.grown 1))) := by
      unfold aPieceSl
      dsimp only
      rw [if_pos rfl, show (I .i64 0 : T) = I .i64 ((0 : Nat) : Int) from rfl, aBounds_hi (Nat.zero_le _)]
      dsimp only
      rw [if_pos h0]
    generalize ((TN : Nat) : Int) = TT at *
    simp [c0, cap, w0, wT, c1, pc0, gr, pc1]
  have f1 : FB τ s1 (.sl τ.size 0 0 (.grown 1)) [] := by
    refine ⟨g1, ⟨by simp, .inr (.inr ⟨τ.size, zeros TN [.int .u8 0], _, rfl, .inl rfl, by rw [hs1]; exact St.get_push_same _ _, by simp, by simp [U]⟩)⟩, fun c hc => by cases hc; exact ⟨Nat.le_refl _, by rw [hs1]; simp⟩⟩
  obtain ⟨j, σ, lp2, z, rfl, fz⟩ := loops_inv (f := f66_l2 (R (d + 1)) 8192) (fun q v u => ∃ (k : Nat) (z : S), q + k = ys.length ∧ v = [Z z, Z x, I .i64 ys.length, I .i64 k] ∧ FB τ u z (bss.take k).flatten)
    (fun j u => ∃ z, j = .exit 2 [Z z] ∧ FB τ u z bss.flatten) (by
    rintro q v u ⟨k, z, hk, rfl, hf⟩
    by_cases hkl : k < ys.length
    · left
      have hc : ys[k]? = some ys[k] := List.getElem?_eq_getElem hkl
      have hb : bss[k]? = some (bss[k]'(by omega)) := List.getElem?_eq_getElem (by omega)
      obtain ⟨p, ix, ld⟩ := Rd.at1 (hx.gr hox hf.gr) (i := (k : Int)) rfl hc
      obtain ⟨ry, oy⟩ := hys k _ _ hc hb
      have htk : bss.take (k + 1) = bss.take k ++ [bss[k]'(by omega)] := by rw [List.take_add_one, hb]; rfl
      have h1 := lenSum_take bss (k + 1)
      have hs : lenSum (bss.take (k + 1)) = lenSum (bss.take k) + (bss[k]'(by omega)).length := by rw [htk, lenSum_snoc]
      have c0 : (k : Int) < (ys.length : Int) := by omega
      have w1 : IntKind.i64.wrap ((k : Int) + 1) = ((k + 1 : Nat) : Int) := by rw [wrap_in _ (by omega) (by omega)]; omega
      obtain ⟨z', u', ap, hf', _⟩ := FB.app hf (Rd.gr ry oy hf.gr) (by rw [lenSum_flat]; omega)
      refine ⟨[Z z', Z x, I .i64 ys.length, I .i64 ((k + 1 : Nat) : Int)], u', q - 1, ?_, by omega, k + 1, z', by omega, rfl, by rw [htk, List.flatten_append]; simpa using hf'⟩
      unfold f66_l2
      generalize ((k + 1 : Nat) : Int) = K1 at w1 ⊢
      generalize (k : Int) = K at *
      generalize (ys.length : Int) = L at *
      simp [c0, ix, ld, ap, w1]
    · right
      have hk' : k = ys.length := by omega
      subst hk'
      rw [hlen, List.take_length] at hf
      refine ⟨.exit 2 [Z z], u, ?_, (fun v hv => by cases hv), z, rfl, hf⟩
      unfold f66_l2
      simp) 8192 ys.length [Z (.sl τ.size 0 0 (.grown 1)), Z x, I .i64 ys.length, I .i64 0] s1 ⟨0, _, by omega, rfl, by simpa using f1⟩ (by omega)
  refine ⟨z, σ, ?_, fz⟩
  simp [hll, lp, hg, lp2]

theorem wrap_run (d : Nat) (wf : s.wf) (h : RB s x bs) (hox : ∀ c, own x = some c → c < s.size) (hl : bs.length ≤ 8000) : ∃ z t, R (d + 3) 40 [Z x] s = some (Z z, t) ∧ FB s t z (wrapB bs) := by
  rw [f40_run]
  unfold f40
  have hll := h.lenB
  have w0 : IntKind.u64.wrap (bs.length : Int) = (bs.length : Int) := wrap64 _ (by omega)
  obtain ⟨y1, s1, e1, f1⟩ := vput_run (d + 1) wf bs.length (by omega)
  have hvl := vput_len bs.length
  have e2 := sum_run d f1.rd (by omega)
  have hlt := sumB_lt (vput bs.length) 1 (by decide)
  have rx1 : RB s1 x bs := h.gr hox f1.gr
  have e3 := more_run (d + 1) hlt rx1 hl
  obtain ⟨y4, s4, e4, f4⟩ := low_run (d + 1) f1.gr.wf (sumB (sumB 1 (vput bs.length)) bs)
  have g4 := f1.gr.trans f4.gr
  obtain ⟨s5, hs5⟩ : ∃ s5, s5 = s4.push (.cells true [y1, y4, x]) := ⟨_, rfl⟩
  have nw : aNew s4 (nSlice 3 (aFill [.nils, .nils, .nils] [(0, 1, Z y1), (1, 1, Z y4), (2, 1, Z x)])) = some (Z (.sl s4.size 0 3 (.known 3)), s5) := by rw [hs5]; rfl
  have L := Fr.lit 1 g4.wf (n := 3) (vs := [y1, y4, x]) rfl
  rw [← hs5] at L
  have g5 := g4.trans L.gr
  have r1 : RB s5 y1 (vput bs.length) := (f1.rd.gr (fun c hc => (f1.new c hc).2) f4.gr).gr (fun c hc => Nat.lt_of_lt_of_le (f1.new c hc).2 f4.gr.2.1) L.gr
  have r4 : RB s5 y4 (four (sumB (sumB 1 (vput bs.length)) bs)) := f4.rd.gr (fun c hc => (f4.new c hc).2) L.gr
  have rx : RB s5 x bs := h.gr hox g5
  have hpos : 0 < (vput bs.length).length := by unfold vput putN; split <;> simp
  obtain ⟨z, t, e6, f6⟩ := concat_run d L.gr.wf (ys := [y1, y4, x]) (bss := [vput bs.length, four (sumB (sumB 1 (vput bs.length)) bs), bs]) L.rd (fun c hc => (L.new c hc).2) rfl (fun j y b hy hb => by
    have z5 : s4.size ≤ s5.size := L.gr.2.1
    match j with
    | 0 => simp at hy hb; subst hy; subst hb; exact ⟨r1, fun c hc => by have := (f1.new c hc).2; have := f4.gr.2.1; omega⟩
    | 1 => simp at hy hb; subst hy; subst hb; exact ⟨r4, fun c hc => by have := (f4.new c hc).2; omega⟩
    | 2 => simp at hy hb; subst hy; subst hb; exact ⟨rx, fun c hc => by have := hox c hc; have := g5.2.1; omega⟩
    | j + 3 => simp at hy) (by simp [lenSum]; omega) (by simp [lenSum, four]; omega) (by simp)
  have hw : [vput bs.length, four (sumB (sumB 1 (vput bs.length)) bs), bs].flatten = wrapB bs := by simp [wrapB, sumB_append]
  rw [hw] at f6
  refine ⟨z, t, ?_, f6.from g5⟩
  simp only [Nat.add_assoc, Nat.reduceAdd] at e1 e3 e4
  generalize (bs.length : Int) = BL at *
  simp [hll, w0, e1, e2, e3, e4, nw, e6]
end
end Go.Proofs.YtlhbidbdmdcdeaaGreatDoor

/-
  Frames: what log.Open, Frame, All, Read, Meet and Front compute, in any store. No conditions but those named in each line.
-/
namespace Go.Proofs.YtlhbidbdmdcdeaaGreatDoor
open Go Go.Abs Go.Abs.F
set_option linter.unusedVariables false
section
variable {s t : St} {x y : S} {bs cs : Bs} {i : Nat} {l m : List Ent}

theorem wrapB_len (b : Bs) : (wrapB b).length ≤ b.length + 15 := by
  have := vput_len b.length
  simp [wrapB, four]
  omega

theorem getN_few0 {bs : Bs} {at_ : Nat} : ∀ (f k n : Nat) {r : Nat × Nat}, getN bs at_ f k n = some r → r.2 ≤ at_ + k + f := by
  intro f
  induction f with
  | zero => intro k n r h; cases h
  | succ f ih =>
    intro k n r h
    unfold getN at h
    split at h
    · cases h
    · split at h
      · cases h
      · split at h
        · have := ih _ _ h
          omega
        · split at h
          · cases h
          · cases h
            show at_ + k + 1 ≤ _
            omega
theorem getN_few {bs : Bs} {at_ n to : Nat} (h : vget bs at_ = some (n, to)) : to ≤ at_ + 10 := by
  unfold vget at h
  split at h
  · have := getN_few0 _ _ _ h
    simpa using this
  · cases h

abbrev resO (y : S) (at_ : Nat) (o : Option (Bs × Nat)) : T := match o with
  | some (p, e) => .tup [.s y, .s (.int .i64 (e : Nat)), .s (.bool true)]
  | none => .tup [.s .nils, .s (.int .i64 (at_ : Nat)), .s (.bool false)]

theorem open_run (d : Nat) (wf : s.wf) (h : RB s x bs) (hox : ∀ c, own x = some c → c < s.size) (hl : bs.length ≤ 100000) {at_ : Nat} (ha : at_ ≤ bs.length) (hsm : ∀ n to, vget bs at_ = some (n, to) → bs.length - to - 4 < n ∨ n ≤ 7900) :
    ∃ y t, R (d + 4) 41 [Z x, I .i64 (at_ : Nat)] s = some (resO y at_ (openB bs at_), t) ∧ Gr s t ∧ ∀ p e, openB bs at_ = some (p, e) → RB t y p ∧ (∀ c, own y = some c → c < t.size) ∧ e ≤ bs.length ∧ p.length ≤ 7900 := by
  rw [f41_run]
  unfold f41
  have hll := h.lenB
  have e1 := vget_run (d + 2) h hl (at_ := at_) (by omega)
  simp only [Nat.add_assoc, Nat.reduceAdd] at e1
  cases hv : vget bs at_ with
  | none =>
    rw [hv] at e1
    simp only [vres, if_pos ha] at e1
    have ho : openB bs at_ = none := by unfold openB; rw [hv]
    rw [ho]
    refine ⟨.nils, s, ?_, Gr.refl wf, fun p e hh => by cases hh⟩
    simp [e1, aExtract, gtt, retT, allV]
  | some p =>
    obtain ⟨n, to⟩ := p
    rw [hv] at e1
    simp only [vres] at e1
    obtain ⟨hv1, hv2⟩ := vget_lt hv
    have hsn := hsm n to hv
    have w1 : IntKind.i64.wrap ((bs.length : Int) - ((to : Nat) : Int)) = (bs.length : Int) - ((to : Nat) : Int) := wrap_in _ (by omega) (by omega)
    by_cases c1 : bs.length < to + 4
    · have ho : openB bs at_ = none := by unfold openB; rw [hv]; simp only; rw [if_pos (.inl c1)]
      rw [ho]
      have k1 : (bs.length : Int) - ((to : Nat) : Int) < 4 := by omega
      refine ⟨.nils, s, ?_, Gr.refl wf, fun p e hh => by cases hh⟩
      simp [e1, aExtract, hll, w1, k1, gtt, retT, allV]
    · have k1 : ¬ (bs.length : Int) - ((to : Nat) : Int) < 4 := by omega
      have w2 : IntKind.i64.wrap ((bs.length : Int) - ((to : Nat) : Int) - 4) = (bs.length : Int) - ((to : Nat) : Int) - 4 := wrap_in _ (by omega) (by omega)
      have w3 : IntKind.u64.wrap ((bs.length : Int) - ((to : Nat) : Int) - 4) = (bs.length : Int) - ((to : Nat) : Int) - 4 := wrap_u64_in _ (by omega) (by omega)
      by_cases c2 : bs.length - to - 4 < n
      · have ho : openB bs at_ = none := by unfold openB; rw [hv]; simp only; rw [if_pos (.inr c2)]
        rw [ho]
        have k2 : (bs.length : Int) - ((to : Nat) : Int) - 4 < ((n : Nat) : Int) := by omega
        refine ⟨.nils, s, ?_, Gr.refl wf, fun p e hh => by cases hh⟩
        simp [e1, aExtract, hll, w1, k1, w2, w3, k2, retT, allV]
      · have k2 : ¬ (bs.length : Int) - ((to : Nat) : Int) - 4 < ((n : Nat) : Int) := by omega
        have w4 : IntKind.i64.wrap (((to : Nat) : Int) + 4) = ((to + 4 : Nat) : Int) := by rw [wrap_in _ (by omega) (by omega)]; omega
        have w5 : IntKind.i64.wrap ((n : Nat) : Int) = ((n : Nat) : Int) := wrap_in _ (by omega) (by omega)
        have w6 : IntKind.i64.wrap (((to + 4 : Nat) : Int) + ((n : Nat) : Int)) = ((to + 4 + n : Nat) : Int) := by rw [wrap_in _ (by omega) (by omega)]; omega
        have piece : ∀ lo hi : Nat, lo ≤ hi → hi ≤ bs.length → ∃ y, aPieceSl 1 (Z x) (some (I .i64 (lo : Nat))) (some (I .i64 (hi : Nat))) none = some (Z y) ∧ RB s y ((bs.drop lo).take (hi - lo)) ∧ (own y = none ∨ own y = own x) := fun lo hi h1 h2 => by
          obtain ⟨y, a, b, c⟩ := Rd.piece h (lo := lo) (hi := hi) h1 h2
          refine ⟨y, a, ?_, c⟩
          rw [Nat.mul_one, Nat.mul_one, U_drop, U_take] at b
          have : ((bs.drop lo).take (hi - lo)).length = hi - lo := by rw [List.length_take, List.length_drop]; omega
          unfold RB
          rw [this]
          exact b
        obtain ⟨y1, p1, r1, o1⟩ := piece (to + 4) (to + 4 + n) (by omega) (by omega)
        obtain ⟨y2, p2, r2, o2⟩ := piece at_ (to + 4 + n) (by omega) (by omega)
        rw [show to + 4 + n - (to + 4) = n by omega] at r1
        have hn7 : n ≤ 7900 := hsn.resolve_left c2
        have hpl : ((bs.drop (to + 4)).take n).length ≤ 7900 := by rw [List.length_take]; omega
        have ho1 : ∀ c, own y1 = some c → c < s.size := fun c hc => by
          rcases o1 with e | e
          · rw [e] at hc; cases hc
          · rw [e] at hc; exact hox c hc
        have ho2 : ∀ c, own y2 = some c → c < s.size := fun c hc => by
          rcases o2 with e | e
          · rw [e] at hc; cases hc
          · rw [e] at hc; exact hox c hc
        obtain ⟨z, t, e3, f3⟩ := wrap_run d wf r1 ho1 (by omega)
        have r2' : RB t y2 ((bs.drop at_).take (to + 4 + n - at_)) := r2.gr ho2 f3.gr
        have eq : R (d + 3) 70 [Z y2, Z z] t = some (B (decide ((bs.drop at_).take (to + 4 + n - at_) = wrapB ((bs.drop (to + 4)).take n))), t) := by
          by_cases hlong : ((bs.drop at_).take (to + 4 + n - at_)).length ≤ 8000
          · exact equal_run (d + 2) r2' f3.rd hlong
          · exfalso
            rw [List.length_take, List.length_drop] at hlong
            have := getN_few hv
            omega
        have hop : openB bs at_ = if (bs.drop at_).take (to + 4 + n - at_) = wrapB ((bs.drop (to + 4)).take n) then some ((bs.drop (to + 4)).take n, to + 4 + n) else none := by
          unfold openB
          rw [hv]
          simp only
          rw [if_neg (fun hh => hh.elim c1 c2)]
        rw [hop]
        by_cases he : (bs.drop at_).take (to + 4 + n - at_) = wrapB ((bs.drop (to + 4)).take n)
        · rw [if_pos he]
          rw [decide_eq_true he] at eq
          refine ⟨y1, t, ?_, f3.gr, fun p e hh => by
            cases hh
            exact ⟨r1.gr ho1 f3.gr, fun c hc => Nat.lt_of_lt_of_le (ho1 c hc) f3.gr.2.1, by omega, hpl⟩⟩
          show _ = some (T.tup [.s y1, .s (.int .i64 ((to + 4 + n : Nat) : Int)), .s (.bool true)], t)
          generalize ((to + 4 + n : Nat) : Int) = E1 at *
          generalize ((to + 4 : Nat) : Int) = E0 at *
          generalize R (d + 3) = r at *
          simp [e1, aExtract, hll, w1, k1, w2, w3, k2, w4, w5, w6, p1, p2, e3, eq, retT, allV]
        · rw [if_neg he]
          rw [decide_eq_false he] at eq
          refine ⟨y1, t, ?_, f3.gr, fun p e hh => by cases hh⟩
          generalize ((to + 4 + n : Nat) : Int) = E1 at *
          generalize ((to + 4 : Nat) : Int) = E0 at *
          generalize R (d + 3) = r at *
          simp [e1, aExtract, hll, w1, k1, w2, w3, k2, w4, w5, w6, p1, p2, e3, eq, retT, allV]

abbrev resF (y : S) (o : Option Bs) : T := match o with
  | some b => .tup [.s y, .s (.int .i64 0)]
  | none => .tup [.s .nils, .s (.int .i64 1)]

theorem frame_run (d : Nat) (wf : s.wf) (e : Ent) (hw : EWf e) : ∃ y t, R (d + 10) 14 [AE e] s = some (resF y (frameE e), t) ∧ Gr s t ∧ ∀ b, frameE e = some b → FB s t y b := by
  rw [f14_run]
  unfold f14
  obtain ⟨s1, hs1⟩ : ∃ s1, s1 = s.push (.cells true (cE e)) := ⟨_, rfl⟩
  have nw1 : aNew s (nBox (AE e)) = some (Z (.ptr s.size 0), s1) := by rw [hs1]; rfl
  have g1 : Gr s s1 := by rw [hs1]; exact Gr.push wf _
  have h1 : s1.get s.size = some (.cells true (cE e)) := by rw [hs1]; exact St.get_push_same _ _
  have l8 := load8 (g := s1.get) h1
  cases hm : mayE e with
  | false =>
    obtain ⟨s2, e2, g2⟩ := put_bad d g1.wf hm
    have hf : frameE e = none := by simp [frameE, hm]
    rw [hf]
    refine ⟨.nils, s2, ?_, g1.trans g2, fun b hb => by cases hb⟩
    simp [nw1, l8, e2, aExtract, retT, allV]
  | true =>
    obtain ⟨y, s2, e2, f2⟩ := put_run d g1.wf hm hw
    obtain ⟨z, s3, e3, f3⟩ := wrap_run (d + 6) f2.gr.wf f2.rd (fun c hc => (f2.new c hc).2) (by have := putB_len (mayE_x hm); omega)
    have hf : frameE e = some (wrapB (putB e)) := by simp [frameE, hm]
    rw [hf]
    refine ⟨z, s3, ?_, (g1.trans f2.gr).trans f3.gr, fun b hb => by cases hb; exact f3.from (g1.trans f2.gr)⟩
    simp only [Nat.add_assoc, Nat.reduceAdd] at e3
    simp [nw1, l8, e2, aExtract, e3, retT, allV]

theorem frameE_len {e : Ent} {b : Bs} (h : frameE e = some b) : b.length ≤ 415 := by
  unfold frameE at h
  split at h
  · rename_i hm
    cases h
    have := putB_len (mayE_x hm)
    have := wrapB_len (putB e)
    omega
  · cases h

theorem framesB_snoc : ∀ (l : List Ent) (e : Ent), framesB (l ++ [e]) = framesB l ++ wrapB (putB e)
  | [], e => by simp [framesB]
  | a :: r, e => by simp [framesB, framesB_snoc r e]

theorem all_take {l : List Ent} (k : Nat) (h : l.all mayE = true) : (l.take k).all mayE = true := by
  rw [List.all_eq_true] at h ⊢
  exact fun x hx => h x (List.mem_of_mem_take hx)

theorem all_split (l : List Ent) (k : Nat) (e : Ent) (hk : l[k]? = some e) (h : (l.take k).all mayE = true) : (mayE e = false → l.all mayE = false) ∧ (mayE e = true → (l.take (k + 1)).all mayE = true) := by
  constructor
  · intro he
    rw [Bool.eq_false_iff]
    intro ha
    rw [List.all_eq_true] at ha
    rw [ha e (List.mem_of_getElem? hk)] at he
    cases he
  · intro he
    rw [List.take_add_one, hk, Option.toList_some, List.all_append, h]
    simp [he]

theorem framesB_len : ∀ l : List Ent, l.all mayE = true → (framesB l).length ≤ 415 * l.length
  | [], _ => by simp [framesB]
  | e :: r, h => by
    simp only [List.all_cons, Bool.and_eq_true] at h
    have h1 := framesB_len r h.2
    have h2 : (wrapB (putB e)).length ≤ 415 := frameE_len (e := e) (by simp [frameE, h.1])
    simp [framesB]
    omega

abbrev resA (y : S) (p : Bs × Int) : T := .tup [.s y, .s (.int .i64 p.2)]

theorem all_run (d : Nat) (wf : s.wf) (h : RE s x l) (hox : ∀ c, own x = some c → c < s.size) (hw : ∀ e ∈ l, EWf e) (hl : l.length ≤ 2400) : ∃ y t, R (d + 11) 15 [Z x] s = some (resA y (allP l), t) ∧ FB s t y (allP l).1 := by
  rw [f15_run]
  unfold f15
  have hll := h.lens
  -- one element, copied and framed
  have step : ∀ (u : St) (k : Nat), Gr s u → ∀ (hk : k < l.length), ∃ p u1, (aIndexSl 8 (Z x) (I .i64 (k : Nat)) = some p ∧ aLoadN 8 p u.get = some (AE l[k])) ∧
      (∃ u0, aNew u (nCells [.int .i64 0, .int .i64 0, .int .i64 0, .int .i64 0, .int .i64 0, .int .i64 0, .int .u32 0, .str []]) = some (Z (.ptr u.size 0), u0) ∧ aStore 8 (Z (.ptr u.size 0)) (AE l[k]) u0 = some (tt, u1)) ∧ aLoadN 8 (Z (.ptr u.size 0)) u1.get = some (AE l[k]) ∧ Gr u u1 := fun u k g hk => by
    have hr : RE u x l := h.gr hox g
    obtain ⟨p, ix, ld⟩ := RE.atE hr (n := ((k : Nat) : Int)) rfl (List.getElem?_eq_getElem hk)
    obtain ⟨u0, hu0⟩ : ∃ u0, u0 = u.push (.cells true (cE ent0)) := ⟨_, rfl⟩
    have b0 : u0.get u.size = some (.cells true (cE ent0)) := by rw [hu0]; exact St.get_push_same _ _
    have st := store8 (e := l[k]) b0 rfl
    have g0 : Gr u u0 := by rw [hu0]; exact Gr.push g.wf _
    refine ⟨p, _, ⟨ix, ld⟩, ⟨u0, by rw [hu0]; rfl, st⟩, load8 (St.get_set_same _ _ _), ⟨St.wf_set g0.wf (by rw [hu0]; simp) _, by simpa using g0.2.1, fun b hb => by rw [St.get_set_ne _ _ (by omega)]; exact g0.2.2 b hb⟩⟩
  by_cases hbig : 2000 < l.length
  · have c0 : (2000 : Int) < (l.length : Int) := by omega
    obtain ⟨j, τ, lp, hj, gτ⟩ := loops_inv (f := f15_l1 (R (d + 10)) 8192) (fun q v u => ∃ k : Nat, q + k = l.length ∧ v = [Z x, I .i64 l.length, I .i64 k] ∧ Gr s u ∧ (l.take k).all mayE = true)
      (fun j u => (j = .exit 0 [] ∧ l.all mayE = true ∨ j = .ret (.tup [.s .nils, .s (.int .i64 1)]) ∧ l.all mayE = false) ∧ Gr s u) (by
      rintro q v u ⟨k, hk, rfl, g, ha⟩
      by_cases hkl : k < l.length
      · obtain ⟨p, u1, ⟨ix, ld⟩, ⟨u0, nw, st⟩, ld2, g1⟩ := step u k g hkl
        have hm := all_split l k l[k] (List.getElem?_eq_getElem hkl) ha
        obtain ⟨y, u2, e2, g2, f2⟩ := frame_run d (g.trans g1).wf l[k] (hw _ (List.getElem_mem hkl))
        have c1 : (k : Int) < (l.length : Int) := by omega
        have w1 : IntKind.i64.wrap ((k : Int) + 1) = ((k + 1 : Nat) : Int) := by rw [wrap_in _ (by omega) (by omega)]; omega
        cases hme : mayE l[k] with
        | true =>
          left
          have hf : frameE l[k] = some (wrapB (putB l[k])) := by simp [frameE, hme]
          rw [hf] at e2
          refine ⟨[Z x, I .i64 l.length, I .i64 ((k + 1 : Nat) : Int)], u2, q - 1, ?_, by omega, k + 1, by omega, rfl, (g.trans g1).trans g2, hm.2 hme⟩
          unfold f15_l1
          generalize ((k + 1 : Nat) : Int) = K1 at w1 ⊢
          generalize (k : Int) = K at *
          generalize (l.length : Int) = L at *
          generalize R (d + 10) = r at *
          simp [c1, ix, ld, nw, st, ld2, e2, aExtract, w1]
        | false =>
          right
          have hf : frameE l[k] = none := by simp [frameE, hme]
          rw [hf] at e2
          refine ⟨.ret (.tup [.s .nils, .s (.int .i64 1)]), u2, ?_, (fun v hv => by cases hv), .inr ⟨rfl, hm.1 hme⟩, (g.trans g1).trans g2⟩
          unfold f15_l1
          generalize (k : Int) = K at *
          generalize (l.length : Int) = L at *
          generalize R (d + 10) = r at *
          simp [c1, ix, ld, nw, st, ld2, e2, aExtract, retT, allV]
      · right
        have hk' : k = l.length := by omega
        subst hk'
        rw [List.take_length] at ha
        refine ⟨.exit 0 [], u, ?_, (fun v hv => by cases hv), .inl ⟨rfl, ha⟩, g⟩
        unfold f15_l1
        simp) 8192 l.length [Z x, I .i64 l.length, I .i64 0] s ⟨0, rfl, rfl, Gr.refl wf, by simp⟩ (by omega)
    have fn : FB s τ .nils [] := ⟨gτ, by simpa [U] using Ow.nil 1 τ, fun c hc => by cases hc⟩
    rcases hj with ⟨rfl, ha⟩ | ⟨rfl, ha⟩
    · have hp : allP l = ([], 8) := by unfold allP; rw [if_pos ha, if_neg (by omega)]
      rw [hp]
      refine ⟨.nils, τ, ?_, fn⟩
      generalize (l.length : Int) = L at *
      simp [hll, c0, lp, retT, allV]
    · have hp : allP l = ([], 1) := by unfold allP; rw [if_neg (by simp [ha])]
      rw [hp]
      refine ⟨.nils, τ, ?_, fn⟩
      generalize (l.length : Int) = L at *
      simp [hll, c0, lp]
  · have c0 : ¬ (2000 : Int) < (l.length : Int) := by omega
    obtain ⟨j, τ, lp, hj⟩ := loops_inv (f := f15_l2 (R (d + 10)) 8192) (fun q v u => ∃ (k : Nat) (z : S), q + k = l.length ∧ v = [Z z, Z x, I .i64 l.length, I .i64 k] ∧ FB s u z (framesB (l.take k)) ∧ (l.take k).all mayE = true)
      (fun j u => (∃ z, j = .exit 2 [Z z] ∧ FB s u z (framesB l) ∧ l.all mayE = true) ∨ j = .ret (.tup [.s .nils, .s (.int .i64 1)]) ∧ l.all mayE = false ∧ Gr s u) (by
      rintro q v u ⟨k, z, hk, rfl, f, ha⟩
      by_cases hkl : k < l.length
      · obtain ⟨p, u1, ⟨ix, ld⟩, ⟨u0, nw, st⟩, ld2, g1⟩ := step u k f.gr hkl
        have hm := all_split l k l[k] (List.getElem?_eq_getElem hkl) ha
        obtain ⟨y, u2, e2, g2, f2⟩ := frame_run d (f.gr.trans g1).wf l[k] (hw _ (List.getElem_mem hkl))
        have c1 : (k : Int) < (l.length : Int) := by omega
        have w1 : IntKind.i64.wrap ((k : Int) + 1) = ((k + 1 : Nat) : Int) := by rw [wrap_in _ (by omega) (by omega)]; omega
        cases hme : mayE l[k] with
        | true =>
          left
          have hf : frameE l[k] = some (wrapB (putB l[k])) := by simp [frameE, hme]
          rw [hf] at e2
          have hfl := frameE_len hf
          have hal := framesB_len _ ha
          rw [List.length_take] at hal
          obtain ⟨z2, u3, ap, f3, _⟩ := FB.app ((f.gr' g1).gr' g2) (f2 _ hf).rd (by omega)
          have htk : l.take (k + 1) = l.take k ++ [l[k]] := by rw [List.take_add_one, List.getElem?_eq_getElem hkl]; rfl
          refine ⟨[Z z2, Z x, I .i64 l.length, I .i64 ((k + 1 : Nat) : Int)], u3, q - 1, ?_, by omega, k + 1, z2, by omega, rfl, by rw [htk, framesB_snoc]; exact f3, hm.2 hme⟩
          unfold f15_l2
          generalize ((k + 1 : Nat) : Int) = K1 at w1 ⊢
          generalize (k : Int) = K at *
          generalize (l.length : Int) = L at *
          generalize R (d + 10) = r at *
          simp [c1, ix, ld, nw, st, ld2, e2, aExtract, ap, w1]
        | false =>
          right
          have hf : frameE l[k] = none := by simp [frameE, hme]
          rw [hf] at e2
          refine ⟨.ret (.tup [.s .nils, .s (.int .i64 1)]), u2, ?_, (fun v hv => by cases hv), .inr ⟨rfl, hm.1 hme, (f.gr.trans g1).trans g2⟩⟩
          unfold f15_l2
          generalize (k : Int) = K at *
          generalize (l.length : Int) = L at *
          generalize R (d + 10) = r at *
          simp [c1, ix, ld, nw, st, ld2, e2, aExtract, retT, allV]
      · right
        have hk' : k = l.length := by omega
        subst hk'
        rw [List.take_length] at ha f
        refine ⟨.exit 2 [Z z], u, ?_, (fun v hv => by cases hv), .inl ⟨z, rfl, f, ha⟩⟩
        unfold f15_l2
        simp) 8192 l.length [Z .nils, Z x, I .i64 l.length, I .i64 0] s ⟨0, .nils, by omega, rfl, by simpa [framesB, FB, U] using Fr.nil 1 wf, by simp⟩ (by omega)
    rcases hj with ⟨z, rfl, f, ha⟩ | ⟨rfl, ha, g⟩
    · have hp : allP l = (framesB l, 0) := by unfold allP; rw [if_pos ha, if_pos (by omega)]
      rw [hp]
      refine ⟨z, τ, ?_, f⟩
      generalize (l.length : Int) = L at *
      simp [hll, c0, lp, retT, allV]
    · have hp : allP l = ([], 1) := by unfold allP; rw [if_neg (by simp [ha])]
      rw [hp]
      refine ⟨.nils, τ, ?_, ⟨g, by simpa [U] using Ow.nil 1 τ, fun c hc => by cases hc⟩⟩
      generalize (l.length : Int) = L at *
      simp [hll, c0, lp]

/-! ### Meet, Front -/

theorem meetP_le : ∀ a b : List Ent, meetP a b ≤ a.length ∧ meetP a b ≤ b.length
  | [], b => by simp [meetP]
  | a :: r, [] => by simp [meetP]
  | a :: r, b :: t => by
    have := meetP_le r t
    unfold meetP
    split <;> simp <;> omega

theorem meetP_drop (a b : List Ent) (k : Nat) (ha : k ≤ a.length) (hb : k ≤ b.length) (h : ∀ j, j < k → a[j]? = b[j]?) : meetP a b = k + meetP (a.drop k) (b.drop k) := by
  induction k generalizing a b with
  | zero => simp
  | succ k ih =>
    cases a with
    | nil => simp at ha
    | cons x a => cases b with
      | nil => simp at hb
      | cons y b =>
        have h0 := h 0 (by omega)
        simp at h0
        subst h0
        have := ih a b (by simpa using ha) (by simpa using hb) fun j hj => by simpa using h (j + 1) (by omega)
        show (if x = x then _ else _) = _
        rw [if_pos rfl, this, List.drop_succ_cons, List.drop_succ_cons]
        omega

theorem meet_run (d : Nat) (wf : s.wf) (h : RE s x l) (hox : ∀ c, own x = some c → c < s.size) (k : RE s y m) (hoy : ∀ c, own y = some c → c < s.size) (hl : l.length ≤ 8000) : ∃ t, R (d + 2) 25 [Z x, Z y] s = some (I .i64 (meetP l m : Nat), t) ∧ Gr s t := by
  rw [f25_run]
  unfold f25
  have hll := h.lens
  have kll := k.lens
  obtain ⟨j, τ, lp, hj, gτ⟩ := loops_inv (f := f25_l1 (R (d + 1)) 8192) (fun q v u => ∃ n : Nat, q + n = l.length ∧ n ≤ m.length ∧ v = [Z x, Z y, I .i64 n] ∧ Gr s u ∧ ∀ j, j < n → l[j]? = m[j]?)
    (fun j u => j = .exit 0 [I .i64 (meetP l m : Nat)] ∧ Gr s u) (by
    rintro q v u ⟨n, hn, hnm, rfl, g, heq⟩
    have hd := meetP_drop l m n (by omega) hnm heq
    have hmin : min ((l.length : Nat) : Int) ((m.length : Nat) : Int) = ((min l.length m.length : Nat) : Int) := by omega
    by_cases hc : n < l.length ∧ n < m.length
    · have hla : l[n]? = some l[n] := List.getElem?_eq_getElem hc.1
      have hma : m[n]? = some (m[n]'hc.2) := List.getElem?_eq_getElem hc.2
      obtain ⟨p, ix, ld⟩ := RE.atE (h.gr hox g) (n := (n : Int)) rfl hla
      obtain ⟨p', ix', ld'⟩ := RE.atE (k.gr hoy g) (n := (n : Int)) rfl hma
      obtain ⟨u1, e1, g1⟩ := same_run d g.wf l[n] (m[n]'hc.2)
      have c0 : (n : Int) < ((min l.length m.length : Nat) : Int) := by omega
      have hdl : l.drop n = l[n] :: l.drop (n + 1) := List.drop_eq_getElem_cons hc.1
      have hdm : m.drop n = (m[n]'hc.2) :: m.drop (n + 1) := List.drop_eq_getElem_cons hc.2
      by_cases he : l[n] = m[n]'hc.2
      · left
        have w1 : IntKind.i64.wrap ((n : Int) + 1) = ((n + 1 : Nat) : Int) := by rw [wrap_in _ (by omega) (by omega)]; omega
        rw [decide_eq_true he] at e1
        refine ⟨[Z x, Z y, I .i64 ((n + 1 : Nat) : Int)], u1, q - 1, ?_, by omega, n + 1, by omega, by omega, rfl, g.trans g1, fun j hj => ?_⟩
        · unfold f25_l1
          generalize ((n + 1 : Nat) : Int) = N1 at w1 ⊢
          generalize ((min l.length m.length : Nat) : Int) = MM at *
          generalize (n : Int) = NN at *
          generalize R (d + 1) = r at *
          simp [hll, kll, hmin, c0, ix, ix', ld, ld', e1, w1]
        · by_cases hjn : j = n
          · subst hjn; rw [hla, hma, he]
          · exact heq j (by omega)
      · right
        rw [decide_eq_false he] at e1
        have hm0 : meetP l m = n := by
          rw [hd, hdl, hdm]
          show n + (if l[n] = m[n]'hc.2 then _ else 0) = n
          rw [if_neg he]; rfl
        refine ⟨.exit 0 [I .i64 (meetP l m : Nat)], u1, ?_, (fun v hv => by cases hv), rfl, g.trans g1⟩
        unfold f25_l1
        rw [hm0]
        generalize ((min l.length m.length : Nat) : Int) = MM at *
        generalize (n : Int) = NN at *
        generalize R (d + 1) = r at *
        simp [hll, kll, hmin, c0, ix, ix', ld, ld', e1]
    · right
      have c0 : ¬ (n : Int) < ((min l.length m.length : Nat) : Int) := by omega
      have hm0 : meetP l m = n := by
        rw [hd]
        by_cases h1 : n = l.length
        · rw [h1, List.drop_length]; simp [meetP]
        · have : n = m.length := by omega
          rw [this, List.drop_length]
          cases l.drop m.length <;> simp [meetP]
      refine ⟨.exit 0 [I .i64 (meetP l m : Nat)], u, ?_, (fun v hv => by cases hv), rfl, g⟩
      unfold f25_l1
      rw [hm0]
      generalize ((min l.length m.length : Nat) : Int) = MM at *
      generalize (n : Int) = NN at *
      simp [hll, kll, hmin, c0, gtt]) 8192 l.length [Z x, Z y, I .i64 0] s ⟨0, rfl, by omega, rfl, Gr.refl wf, fun j hj => by omega⟩ (by omega)
  subst hj
  exact ⟨τ, by simp [lp], gτ⟩

theorem front_run (d : Nat) (wf : s.wf) (h : RE s x l) (hox : ∀ c, own x = some c → c < s.size) (k : RE s y m) (hoy : ∀ c, own y = some c → c < s.size) (hl : l.length ≤ 8000) : ∃ t, R (d + 3) 23 [Z x, Z y] s = some (B (decide (meetP l m = l.length)), t) ∧ Gr s t := by
  rw [f23_run]
  unfold f23
  obtain ⟨t, e1, g1⟩ := meet_run d wf h hox k hoy hl
  have hll := h.lens
  have hd : decide (((meetP l m : Nat) : Int) = ((l.length : Nat) : Int)) = decide (meetP l m = l.length) := decide_eq_decide.2 (by omega)
  refine ⟨t, ?_, g1⟩
  generalize ((meetP l m : Nat) : Int) = M at *
  generalize ((l.length : Nat) : Int) = L at *
  simp only [e1, bd2_some, hll, bd_some, eql_int, hd]
end
end Go.Proofs.YtlhbidbdmdcdeaaGreatDoor

/-
  Frames: what log.Read computes, in any store. No conditions but those named in each line.
-/
namespace Go.Proofs.YtlhbidbdmdcdeaaGreatDoor
open Go Go.Abs Go.Abs.F
set_option linter.unusedVariables false
section
variable {s t : St} {x y : S} {bs cs : Bs} {i : Nat} {l m : List Ent}

theorem openB_le {a e : Nat} {p : Bs} (h : openB bs a = some (p, e)) : e ≤ bs.length := by
  unfold openB at h
  split at h
  · cases h
  · split at h
    · cases h
    · split at h
      · cases h; omega
      · cases h

abbrev resR (y : S) (p : List Ent × Nat) : T := .tup [.s y, .s (.int .i64 (p.2 : Nat))]

theorem read_run (d : Nat) (wf : s.wf) (h : RB s x bs) (hox : ∀ c, own x = some c → c < s.size) (hl : bs.length ≤ 100000) (V : Nat → Prop) (v0 : V 0) (v1 : ∀ a p e, V a → openB bs a = some (p, e) → V e)
    (v2 : ∀ a n to, V a → vget bs a = some (n, to) → bs.length - to - 4 < n ∨ n ≤ 7900) :
    ∃ y t, R (d + 11) 16 [Z x] s = some (resR y (readP bs), t) ∧ FE s t y (readP bs).1 := by
  rw [f16_run]
  unfold f16
  obtain ⟨j, τ, lp, z, hj, f⟩ := loops_inv (f := f16_l1 (R (d + 10)) 8192) (fun q v u => ∃ (at_ : Nat) (z : S) (acc : List Ent), q + acc.length = 2000 ∧ v = [Z x, Z z, I .i64 (at_ : Nat)] ∧ FE s u z acc ∧ V at_ ∧ at_ ≤ bs.length ∧ readL bs q at_ acc = readP bs)
    (fun j u => ∃ z, j = .exit 0 [Z z, I .i64 ((readP bs).2 : Nat)] ∧ FE s u z (readP bs).1) (by
    rintro q v u ⟨at_, z, acc, hq, rfl, f, hv, ha, hr⟩
    have hll := f.rd.lens
    by_cases hc : acc.length < 2000
    · obtain ⟨q', rfl⟩ : ∃ q', q = q' + 1 := ⟨q - 1, by omega⟩
      obtain ⟨y, u1, e1, g1, o1⟩ := open_run (d + 6) f.gr.wf (h.gr hox f.gr) (fun c hc => Nat.lt_of_lt_of_le (hox c hc) f.gr.2.1) hl ha (fun n to => v2 at_ n to hv)
      simp only [Nat.add_assoc, Nat.reduceAdd] at e1
      have c0 : ((acc.length : Nat) : Int) < 2000 := by omega
      unfold readL at hr
      cases ho : openB bs at_ with
      | none =>
        rw [ho] at e1 hr
        right
        refine ⟨.exit 0 [Z z, I .i64 (at_ : Nat)], u1, ?_, (fun v hv => by cases hv), z, ?_, ?_⟩
        · unfold f16_l1
          generalize ((acc.length : Nat) : Int) = L at *
          generalize ((at_ : Nat) : Int) = A at *
          generalize R (d + 10) = r at *
          simp [hll, c0, e1, aExtract, gtt]
        · rw [← hr]
        · rw [← hr]; exact f.gr' g1
      | some pe =>
        obtain ⟨p, e⟩ := pe
        rw [ho] at e1 hr
        simp only at hr
        obtain ⟨ry, oy, he, hp⟩ := o1 p e ho
        obtain ⟨u2, e2, g2⟩ := get_run d g1.wf ry oy (by omega)
        obtain ⟨u3, hu3⟩ : ∃ u3, u3 = u2.push (.cells true (cE ent0)) := ⟨_, rfl⟩
        have b0 : u3.get u2.size = some (.cells true (cE ent0)) := by rw [hu3]; exact St.get_push_same _ _
        have g3 : Gr u2 u3 := by rw [hu3]; exact Gr.push g2.wf _
        have z3 : u3.size = u2.size + 1 := by rw [hu3]; simp
        have nw : aNew u2 (nCells [.int .i64 0, .int .i64 0, .int .i64 0, .int .i64 0, .int .i64 0, .int .i64 0, .int .u32 0, .str []]) = some (Z (.ptr u2.size 0), u3) := by rw [hu3]; rfl
        have gset : ∀ b : Blk, Gr u2 (u3.set u2.size b) := fun b =>
          ⟨St.wf_set g3.wf (by omega) _, by simpa using g3.2.1, fun c hc => by rw [St.get_set_ne _ _ (by omega)]; exact g3.2.2 c hc⟩
        cases hg : getE p with
        | none =>
          rw [hg] at e2 hr
          have st := store8 (e := ent0) b0 rfl
          right
          refine ⟨.exit 0 [Z z, I .i64 (at_ : Nat)], u3.set u2.size (.cells true (cE ent0)), ?_, (fun v hv => by cases hv), z, ?_, ?_⟩
          rotate_left
          · rw [← hr]
          · rw [← hr]; exact f.gr' ((g1.trans g2).trans (gset _))
          · unfold f16_l1
            generalize ((acc.length : Nat) : Int) = L at *
            generalize ((at_ : Nat) : Int) = A at *
            generalize ((e : Nat) : Int) = E at *
            generalize R (d + 10) = r at *
            simp [hll, c0, e1, aExtract, e2, nw, st, gtt]
        | some en =>
          rw [hg] at e2 hr
          obtain ⟨w, hw⟩ : ∃ w, w = u3.set u2.size (.cells true (cE en)) := ⟨_, rfl⟩
          have st : aStore 8 (Z (.ptr u2.size 0)) (AE en) u3 = some (tt, w) := by rw [hw]; exact store8 b0 rfl
          have ld : aLoadN 8 (Z (.ptr u2.size 0)) w.get = some (AE en) := by rw [hw]; exact load8 (St.get_set_same _ _ _)
          have gw : Gr u2 w := by rw [hw]; exact gset _
          obtain ⟨z2, u5, u4, nw2, ap, f5, _⟩ := FE.lit (e := en) (f.gr' ((g1.trans g2).trans gw)) (by omega)
          left
          refine ⟨[Z x, Z z2, I .i64 (e : Nat)], u5, q', ?_, rfl, e, z2, acc ++ [en], by simp; omega, rfl, f5, v1 _ _ _ hv ho, he, hr⟩
          unfold f16_l1
          generalize ((acc.length : Nat) : Int) = L at *
          generalize ((at_ : Nat) : Int) = A at *
          generalize R (d + 10) = r at *
          simp [hll, c0, e1, aExtract, e2, nw, st, ld, nw2, ap]
    · have hq0 : q = 0 := by omega
      subst hq0
      have c0 : ¬ ((acc.length : Nat) : Int) < 2000 := by omega
      right
      refine ⟨.exit 0 [Z z, I .i64 (at_ : Nat)], u, ?_, (fun v hv => by cases hv), z, ?_, ?_⟩
      · unfold f16_l1
        generalize ((acc.length : Nat) : Int) = L at *
        simp [hll, c0]
      · rw [← hr]; rfl
      · rw [← hr]; exact f) 8192 2000 [Z x, Z .nils, I .i64 0] s ⟨0, .nils, [], rfl, rfl, by exact Fr.nil 8 wf, v0, by omega, rfl⟩ (by omega)
  subst hj
  exact ⟨z, τ, by simp [lp, retT, allV], f⟩

/-- Few bytes: no condition. -/
theorem read_run' (d : Nat) (wf : s.wf) (h : RB s x bs) (hox : ∀ c, own x = some c → c < s.size) (hl : bs.length ≤ 7900) : ∃ y t, R (d + 11) 16 [Z x] s = some (resR y (readP bs), t) ∧ FE s t y (readP bs).1 :=
  read_run d wf h hox (by omega) (fun _ => True) trivial (fun _ _ _ _ _ => trivial) (fun a n to _ hv => by
    by_cases c : bs.length - to - 4 < n
    · exact .inl c
    · exact .inr (by omega))
end
end Go.Proofs.YtlhbidbdmdcdeaaGreatDoor

/-
  The plain law of frames: what is put is read, what is broken is not. No conditions but those named in each line.
-/
namespace Go.Proofs.YtlhbidbdmdcdeaaGreatDoor
open Go Go.Abs Go.Abs.F
set_option linter.unusedVariables false

theorem or_add (acc c k : Nat) (h : acc < 2 ^ k) : acc ||| c * 2 ^ k = acc + c * 2 ^ k := by
  have := Nat.two_pow_add_eq_or_of_lt h c
  rw [Nat.mul_comm] at this
  rw [Nat.or_comm, ← this, Nat.add_comm]

theorem pow7 (k : Nat) : 2 ^ (7 * (k + 1)) = 128 * 2 ^ (7 * k) := by
  rw [Nat.mul_add, Nat.pow_add]; omega

theorem getN_putN {bs post : Bs} {at_ : Nat} : ∀ (f k m acc : Nat), f + k = 10 → m * 2 ^ (7 * k) < 2 ^ 64 → (k = 0 ∨ 0 < m) → acc < 2 ^ (7 * k) → bs.drop (at_ + k) = putN f m ++ post →
    getN bs at_ f k acc = some (acc + m * 2 ^ (7 * k), at_ + k + (putN f m).length) := by
  intro f
  induction f with
  | zero =>
    intro k m acc hf hm h0 ha hd
    obtain rfl : k = 10 := by omega
    exfalso
    rcases h0 with h | h
    · omega
    · have : 1 * 2 ^ 70 ≤ m * 2 ^ 70 := Nat.mul_le_mul_right _ h
      have e : 2 ^ (7 * 10) = 2 ^ 70 := rfl
      rw [e] at hm
      omega
  | succ f ih =>
    intro k m acc hf hm h0 ha hd
    have hk9 : k = 9 → m < 2 := by
      rintro rfl
      have e : 2 ^ (7 * 9) = 2 ^ 63 := rfl
      rw [e] at hm
      omega
    have hget : bs[at_ + k]? = (bs.drop (at_ + k))[0]? := by simp
    unfold getN
    by_cases hc : 128 ≤ m
    · have hp : putN (f + 1) m = UInt8.ofNat (m % 128 + 128) :: putN f (m / 128) := by rw [putN, if_pos hc]
      rw [hp] at hd ⊢
      rw [hget, hd]
      have hb : (UInt8.ofNat (m % 128 + 128)).toNat = m % 128 + 128 := by rw [byte_nat]; omega
      simp only [List.cons_append, List.getElem?_cons_zero, hb]
      rw [if_neg (by rintro ⟨h, _⟩; have := hk9 h; omega), if_pos (by omega)]
      have h128 : (m % 128 + 128) % 128 = m % 128 := by omega
      rw [h128, or_add _ _ _ ha]
      have hmul : m * 2 ^ (7 * k) = m % 128 * 2 ^ (7 * k) + m / 128 * 2 ^ (7 * (k + 1)) := by
        rw [pow7, ← Nat.mul_assoc, ← Nat.add_mul]
        congr 1
        omega
      rw [ih (k + 1) (m / 128) _ (by omega) (by omega) (.inr (by omega)) ?_ ?_]
      · rw [List.length_cons, hmul]
        congr 2 <;> omega
      · rw [pow7]
        have : m % 128 * 2 ^ (7 * k) ≤ 127 * 2 ^ (7 * k) := Nat.mul_le_mul_right _ (by omega)
        omega
      · rw [← Nat.add_assoc, ← List.drop_drop, hd]; rfl
    · have hp : putN (f + 1) m = [UInt8.ofNat m] := by rw [putN, if_neg hc]
      rw [hp] at hd ⊢
      rw [hget, hd]
      have hb : (UInt8.ofNat m).toNat = m := by rw [byte_nat]; omega
      simp only [List.cons_append, List.getElem?_cons_zero, hb]
      rw [if_neg (by rintro ⟨h, _⟩; have := hk9 h; omega), if_neg hc, if_neg (by omega), Nat.mod_eq_of_lt (by omega), or_add _ _ _ ha]
      rfl

theorem vget_vput {bs pre post : Bs} {n at_ : Nat} (hb : bs = pre ++ (vput n ++ post)) (ha : at_ = pre.length) (hn : n < 2 ^ 64) : vget bs at_ = some (n, at_ + (vput n).length) := by
  subst hb ha
  unfold vget
  rw [if_pos (by simp), getN_putN (post := post) 10 0 n 0 rfl (by simpa using hn) (.inl rfl) (by simp) (by simp [vput])]
  simp [vput]

theorem nxt_put {bs pre post : Bs} {n at_ most : Nat} {bad : Bool} (hb : bs = pre ++ (vput n ++ post)) (ha : at_ = pre.length) (hn : n ≤ most) (hm : most < 2 ^ 64) : nxt bs most at_ bad = (n, at_ + (vput n).length, bad) := by
  unfold nxt
  rw [vget_vput hb ha (by omega)]
  simp only [Nat.min_eq_left hn, Prod.mk.injEq, true_and]
  rw [decide_eq_false (by omega), Bool.or_false]

/-- What is put is got. -/
theorem getE_putB {e : Ent} (h : mayE e = true) (hw : EWf e) : getE (putB e) = some e := by
  obtain ⟨v0, v1, k0, k1, h1, h2, h3, h4⟩ := mayE_range h
  have hput : putE e = some (putB e) := by unfold putE; rw [if_pos h]
  obtain ⟨w0, w1⟩ := hw
  have main : ∃ c r, putB e = c :: r ∧ getFields (putB e) c = some (e, false) := by
    refine ⟨_, _, rfl, ?_⟩
    have hkb : (UInt8.ofNat e.k.toNat).toNat = e.k.toNat := by rw [byte_nat]; omega
    have hc1 : putB e = [UInt8.ofNat e.k.toNat] ++ (vput e.v.toNat ++ (putNs (nums e) ++ e.x)) := by simp [putB]
    have n1 := nxt_put (most := 1073741824) (bad := false) hc1 rfl (by omega) (by omega)
    have hv : ((e.v.toNat : Nat) : Int) = e.v := Int.toNat_of_nonneg v0
    rcases (by omega : e.k = 1 ∨ e.k = 2 ∨ e.k = 3 ∨ e.k = 4) with hk | hk | hk | hk
    · obtain ⟨hx, i0, i1, t0, t1, f0, f1, o1⟩ := h1 hk
      have hk' : (UInt8.ofNat e.k.toNat).toNat = 1 := by rw [hkb, hk]; rfl
      have hn : nums e = [e.i.toNat, e.t.toNat, e.f.toNat, e.o.toNat, e.u.toNat] := by simp [nums, hk]
      have c2 : putB e = ([UInt8.ofNat e.k.toNat] ++ vput e.v.toNat) ++ (vput e.i.toNat ++ (vput e.t.toNat ++ vput e.f.toNat ++ vput e.o.toNat ++ vput e.u.toNat)) := by simp [putB, hn, putNs, hx]
      have c3 : putB e = ([UInt8.ofNat e.k.toNat] ++ vput e.v.toNat ++ vput e.i.toNat) ++ (vput e.t.toNat ++ (vput e.f.toNat ++ vput e.o.toNat ++ vput e.u.toNat)) := by simp [putB, hn, putNs, hx]
      have c4 : putB e = ([UInt8.ofNat e.k.toNat] ++ vput e.v.toNat ++ vput e.i.toNat ++ vput e.t.toNat) ++ (vput e.f.toNat ++ (vput e.o.toNat ++ vput e.u.toNat)) := by simp [putB, hn, putNs, hx]
      have c5 : putB e = ([UInt8.ofNat e.k.toNat] ++ vput e.v.toNat ++ vput e.i.toNat ++ vput e.t.toNat ++ vput e.f.toNat) ++ (vput e.o.toNat ++ vput e.u.toNat) := by simp [putB, hn, putNs, hx]
      have c6 : putB e = ([UInt8.ofNat e.k.toNat] ++ vput e.v.toNat ++ vput e.i.toNat ++ vput e.t.toNat ++ vput e.f.toNat ++ vput e.o.toNat) ++ (vput e.u.toNat ++ []) := by simp [putB, hn, putNs, hx]
      have n2 := nxt_put (most := 1073741824) (bad := false) c2 rfl (by omega) (by omega)
      have n3 := nxt_put (most := 4) (bad := false) c3 rfl (by omega) (by omega)
      have n4 := nxt_put (most := 1099511627776) (bad := false) c4 rfl (by omega) (by omega)
      have n5 := nxt_put (most := 1099511627776) (bad := false) c5 rfl (by omega) (by omega)
      have n6 := nxt_put (most := 4294967295) (bad := false) c6 rfl (by omega) (by omega)
      simp only [List.length_append, List.length_cons, List.length_nil, Nat.zero_add] at n1 n2 n3 n4 n5 n6
      unfold getFields
      simp only [hk', n1, n2, n3, n4, n5, n6, if_true]
      simp only [hv, Int.toNat_of_nonneg (show 0 ≤ e.i by omega), Int.toNat_of_nonneg t0, Int.toNat_of_nonneg f0, Int.toNat_of_nonneg (show 0 ≤ e.o by omega), Int.toNat_of_nonneg w0]
      obtain ⟨a1, a2, a3, a4, a5, a6, a7, a8⟩ := e
      simp only at hk hx
      subst hk hx
      rfl
    · have hk' : (UInt8.ofNat e.k.toNat).toNat = 2 := by rw [hkb, hk]; rfl
      obtain ⟨q0, q1, q2⟩ := h2 hk
      have hn : nums e = [e.i.toNat] := by simp [nums, hk]
      have c2 : putB e = ([UInt8.ofNat e.k.toNat] ++ vput e.v.toNat) ++ (vput e.i.toNat ++ e.x) := by simp [putB, hn, putNs]
      have n2 := nxt_put (most := 1073741824) (bad := false) c2 rfl (by omega) (by omega)
      simp only [List.length_append, List.length_cons, List.length_nil, Nat.zero_add] at n1 n2
      unfold getFields
      simp only [hk', n1, n2, if_true, if_neg (show ¬ (2 : Nat) = 1 by decide)]
      rw [hv, Int.toNat_of_nonneg (show 0 ≤ e.i by omega)]
      obtain ⟨a1, a2, a3, a4, a5, a6, a7, a8⟩ := e
      simp only at hk
      subst hk
      obtain rfl : a4 = 0 := congrArg Ent.t q2
      obtain rfl : a5 = 0 := congrArg Ent.f q2
      obtain rfl : a6 = 0 := congrArg Ent.o q2
      obtain rfl : a7 = 0 := congrArg Ent.u q2
      obtain rfl : a8 = [] := congrArg Ent.x q2
      rfl
    · have hk' : (UInt8.ofNat e.k.toNat).toNat = 3 := by rw [hkb, hk]; rfl
      simp only [List.length_append, List.length_cons, List.length_nil, Nat.zero_add] at n1
      unfold getFields
      simp only [hk', n1, if_neg (show ¬ (3 : Nat) = 1 by decide), if_neg (show ¬ (3 : Nat) = 2 by decide), if_neg (show ¬ (3 : Nat) = 4 by decide)]
      rw [hv]
      have q2 := (h3 hk).2
      obtain ⟨a1, a2, a3, a4, a5, a6, a7, a8⟩ := e
      simp only at hk
      subst hk
      simp only [ent0, Ent.mk.injEq] at q2
      obtain ⟨_, _, q3, q4, q5, q6, q7, q8⟩ := q2
      subst_vars
      rfl
    · have hk' : (UInt8.ofNat e.k.toNat).toNat = 4 := by rw [hkb, hk]; rfl
      obtain ⟨x0, q2, _⟩ := h4 hk
      have hn : nums e = [e.x.length] := by simp [nums, hk]
      have c2 : putB e = ([UInt8.ofNat e.k.toNat] ++ vput e.v.toNat) ++ (vput e.x.length ++ e.x) := by simp [putB, hn, putNs]
      have n2 := nxt_put (most := 300) (bad := false) c2 rfl (by omega) (by omega)
      have hl : (putB e).length = 1 + (vput e.v.toNat).length + (vput e.x.length).length + e.x.length := by rw [c2]; simp; omega
      have hd : (putB e).drop (1 + (vput e.v.toNat).length + (vput e.x.length).length) = e.x := by
        rw [c2, ← List.append_assoc, List.drop_left']
        simp
        omega
      simp only [List.length_append, List.length_cons, List.length_nil, Nat.zero_add] at n1 n2
      unfold getFields
      simp only [hk', n1, n2, if_neg (show ¬ (4 : Nat) = 1 by decide), if_neg (show ¬ (4 : Nat) = 2 by decide), if_true]
      rw [if_neg (by rw [hl]; simp), hd, List.take_length, hv]
      obtain ⟨a1, a2, a3, a4, a5, a6, a7, a8⟩ := e
      simp only at hk
      subst hk
      simp only [ent0, Ent.mk.injEq] at q2
      obtain ⟨_, _, q3, q4, q5, q6, q7, q8⟩ := q2
      subst_vars
      rfl
  obtain ⟨c, r, hb, hf⟩ := main
  unfold getE
  rw [hb]
  simp only
  rw [← hb, hf]
  simp [hput]

theorem getE_back {bs : Bs} {e : Ent} (h : getE bs = some e) : mayE e = true ∧ bs = putB e := by
  unfold getE at h
  split at h
  · cases h
  · split at h
    · cases h
    · rename_i e' bad he
      split at h
      · rename_i hc
        cases h
        have hp := hc.2
        unfold putE at hp
        split at hp
        · rename_i hm
          cases hp
          exact ⟨hm, rfl⟩
        · cases hp
      · cases h

/-! ### A frame -/

theorem openB_wrap {bs pre b post : Bs} {at_ : Nat} (hb : bs = pre ++ (wrapB b ++ post)) (ha : at_ = pre.length) (hn : b.length < 2 ^ 64) : openB bs at_ = some (b, at_ + (wrapB b).length) := by
  have hs : bs = pre ++ (vput b.length ++ (four (sumB 1 (vput b.length ++ b)) ++ b ++ post)) := by rw [hb]; simp [wrapB]
  have h4 : ∀ n, (four n).length = 4 := fun _ => rfl
  have hl : bs.length = at_ + (vput b.length).length + 4 + b.length + post.length := by rw [hs, ha]; simp [h4]; omega
  have hw : (wrapB b).length = (vput b.length).length + 4 + b.length := by simp [wrapB, h4]; omega
  have hd : bs.drop at_ = wrapB b ++ post := by rw [hb, ha, List.drop_left]
  have hd2 : bs.drop (at_ + (vput b.length).length + 4) = b ++ post := by
    rw [hs, ha, show pre ++ (vput b.length ++ (four (sumB 1 (vput b.length ++ b)) ++ b ++ post)) = (pre ++ vput b.length ++ four (sumB 1 (vput b.length ++ b))) ++ (b ++ post) by simp]
    rw [List.drop_left']
    simp [h4]
    omega
  unfold openB
  rw [vget_vput hs ha hn]
  simp only
  rw [if_neg (by omega), hd, hd2, List.take_left, List.take_left' (by rw [hw]; omega), if_pos rfl]
  congr 2
  omega

theorem openB_back {bs p : Bs} {at_ e : Nat} (h : openB bs at_ = some (p, e)) : e = at_ + (wrapB p).length ∧ e ≤ bs.length ∧ ∃ post, bs.drop at_ = wrapB p ++ post := by
  have he := openB_le h
  unfold openB at h
  split at h
  · cases h
  · rename_i n to hv
    have hlt := vget_lt hv
    split at h
    · cases h
    · split at h
      · rename_i hc heq
        cases h
        have h1 := List.take_append_drop (to + 4 + n - at_) (bs.drop at_)
        have hl : ((bs.drop at_).take (to + 4 + n - at_)).length = to + 4 + n - at_ := by rw [List.length_take, List.length_drop]; omega
        rw [heq] at hl h1
        exact ⟨by omega, he, _, h1.symm⟩
      · cases h

/-- No frame begins another. -/
theorem wrapB_free {p q r r' : Bs} (h : wrapB p ++ r = wrapB q ++ r') (hp : p.length < 2 ^ 64) (hq : q.length < 2 ^ 64) : p = q ∧ r = r' := by
  have h1 := openB_wrap (bs := wrapB p ++ r) (pre := []) (b := p) (post := r) (at_ := 0) rfl rfl hp
  have h2 := openB_wrap (bs := wrapB p ++ r) (pre := []) (b := q) (post := r') (at_ := 0) (by rw [h]; rfl) rfl hq
  rw [h1] at h2
  have : p = q := by cases h2; rfl
  subst this
  exact ⟨rfl, List.append_cancel_left h⟩

theorem openB_end {bs : Bs} {at_ : Nat} (h : bs.length ≤ at_) : openB bs at_ = none := by
  unfold openB vget
  split
  · rfl
  · rename_i n to hv
    split at hv
    · unfold getN at hv
      rw [show bs[at_ + 0]? = none from List.getElem?_eq_none (by omega)] at hv
      cases hv
    · cases hv

theorem framesB_append : ∀ l m : List Ent, framesB (l ++ m) = framesB l ++ framesB m
  | [], m => rfl
  | e :: r, m => by simp [framesB, framesB_append r m]

theorem mayE_len {e : Ent} (h : mayE e = true) : (putB e).length ≤ 400 := putB_len (mayE_x h)

/-- Whole frames are read. -/
theorem readL_frames {bs post : Bs} : ∀ (l : List Ent) (f : Nat) (pre : Bs) (acc : List Ent), l.length ≤ f → l.all mayE = true → (∀ e ∈ l, EWf e) → bs = pre ++ (framesB l ++ post) →
    readL bs f pre.length acc = readL bs (f - l.length) (pre.length + (framesB l).length) (acc ++ l)
  | [], f, pre, acc, _, _, _, _ => by simp [framesB]
  | e :: r, f + 1, pre, acc, hf, hm, hw, hb => by
    simp only [List.all_cons, Bool.and_eq_true] at hm
    have hl := mayE_len hm.1
    have ho := openB_wrap (bs := bs) (pre := pre) (at_ := pre.length) (b := putB e) (post := framesB r ++ post) (by rw [hb]; simp [framesB]) rfl (by omega)
    rw [readL, ho]
    simp only [getE_putB hm.1 (hw e (by simp))]
    have ih := readL_frames (bs := bs) (post := post) r f (pre ++ wrapB (putB e)) (acc ++ [e]) (by simpa using hf) hm.2 (fun x hx => hw x (by simp [hx])) (by rw [hb]; simp [framesB])
    rw [List.length_append] at ih
    rw [ih]
    simp [framesB]
    congr 1
    omega

/-- Where no frame stands the reading ends. -/
theorem readL_none {bs : Bs} {f at_ : Nat} {acc : List Ent} (h : openB bs at_ = none) : readL bs f at_ acc = (acc, at_) := by
  cases f with
  | zero => rfl
  | succ f => rw [readL, h]

theorem readP_frames {bs post : Bs} {l : List Ent} (hl : l.length ≤ 2000) (hm : l.all mayE = true) (hw : ∀ e ∈ l, EWf e) (hb : bs = framesB l ++ post) :
    readP bs = readL bs (2000 - l.length) (framesB l).length l := by
  have := readL_frames (bs := bs) (post := post) l 2000 [] [] hl hm hw hb
  simpa [readP] using this
end Go.Proofs.YtlhbidbdmdcdeaaGreatDoor

/-
  The document's own May of entries. No conditions but those named in each line.
-/
namespace Go.Proofs.YtlhbidbdmdcdeaaGreatDoor
open Go Go.Abs Go.Abs.F
set_option linter.unusedVariables false
section
variable {s t : St} {x y : S} {l : Bs} {i c : Nat}

/-- One cell of the other block is stored; a block keeps. -/
theorem st_cell {s0 u : St} {n m j : Nat} {xs : List S} {v : S} (g : Gr s0 u) (hm : u.get m = some (.cells true xs)) (hs : s0.size ≤ m) (hj : j < xs.length) (hne : n ≠ m) :
    ∃ u', aStore 1 (Z (.ptr m j)) (Z v) u = some (tt, u') ∧ u'.get m = some (.cells true (xs.set j v)) ∧ (∀ k, aLoad1 (Z (.ptr n k)) u'.get = aLoad1 (Z (.ptr n k)) u.get) ∧ u'.get n = u.get n ∧ Gr s0 u' := by
  have e := aStore1_of (σ := u) (i := m) (o := j) (x := v) hm hj
  have hn : (u.set m (.cells true (setRange xs j [v]))).get n = u.get n := St.get_set_ne _ _ hne
  refine ⟨_, e, St.get_set_same _ _ _, fun k => ?_, hn, St.wf_set g.wf (g.wf.lt hm) _, by simpa using g.2.1, fun b hb => by rw [St.get_set_ne _ _ (by omega)]; exact g.2.2 b hb⟩
  simp only [aLoad1, hn]

set_option maxHeartbeats 4000000 in
theorem rmayE_run (d : Nat) (wf : s.wf) (e : Ent) (hx : e.x.length ≤ 8000) : ∃ t, R (d + 4) 38 [AE e] s = some (B (mayE e), t) ∧ Gr s t := by
  rw [f38_run]
  unfold f38
  obtain ⟨n, hn⟩ : ∃ n, n = s.size := ⟨_, rfl⟩
  obtain ⟨s1, hs1⟩ : ∃ s1, s1 = s.push (.cells true (cE e)) := ⟨_, rfl⟩
  have nw1 : aNew s (nBox (AE e)) = some (Z (.ptr n 0), s1) := by rw [hs1, hn]; rfl
  have g1 : Gr s s1 := by rw [hs1]; exact Gr.push wf _
  have z1 : s1.size = n + 1 := by rw [hs1, hn]; rfl
  have b1 : s1.get n = some (.cells true (cE e)) := by rw [hs1, hn]; exact St.get_push_same _ _
  have fa : ∀ j, aFieldAddr j (Z (.ptr n 0)) = some (Z (.ptr n j)) := fun j => by simp [aFieldAddr]
  have fb : ∀ j, aFieldAddr j (Z (.ptr (n + 1) 0)) = some (Z (.ptr (n + 1) j)) := fun j => by simp [aFieldAddr]
  have l0 : aLoad1 (Z (.ptr n 0)) s1.get = some (I .i64 e.k) := aLoad1_of b1 rfl
  have l1 : aLoad1 (Z (.ptr n 1)) s1.get = some (I .i64 e.v) := aLoad1_of b1 rfl
  by_cases hv : e.v < 0 ∨ 1073741824 < e.v
  · have hm : mayE e = false := by unfold mayE; rw [if_pos hv]
    rw [hm]
    refine ⟨s1, ?_, g1⟩
    generalize R (d + 3) = r at *
    rcases Classical.em (e.v < 0) with h | h
    · simp [nw1, fa, l1, h, gtt]
    · have h' := hv.resolve_left h
      simp [nw1, fa, l1, h, h']
  · have v1 : ¬ e.v < 0 := fun h => hv (.inl h)
    have v2 : ¬ 1073741824 < e.v := fun h => hv (.inr h)
    obtain ⟨x0, hx0⟩ : ∃ x0 : Ent, x0 = { ent0 with k := e.k, v := e.v } := ⟨_, rfl⟩
    have ag : asAggT (aFill [.int .i64 0, .int .i64 0, .int .i64 0, .int .i64 0, .int .i64 0, .int .i64 0, .int .u32 0, .str []] [(0, 1, I .i64 e.k), (1, 1, I .i64 e.v)]) = some (AE x0) := by rw [hx0]; rfl
    obtain ⟨s2, hs2⟩ : ∃ s2, s2 = s1.push (.cells true (cE ent0)) := ⟨_, rfl⟩
    have nw2 : aNew s1 (nCells [.int .i64 0, .int .i64 0, .int .i64 0, .int .i64 0, .int .i64 0, .int .i64 0, .int .u32 0, .str []]) = some (Z (.ptr (n + 1) 0), s2) := by rw [hs2, ← z1]; rfl
    have b2 : s2.get (n + 1) = some (.cells true (cE ent0)) := by rw [hs2, ← z1]; exact St.get_push_same _ _
    have b2' : s2.get n = some (.cells true (cE e)) := by rw [hs2, St.get_push_ne _ _ (by omega)]; exact b1
    have z2 : s2.size = n + 2 := by rw [hs2]; simp [z1]
    obtain ⟨s3, hs3⟩ : ∃ s3, s3 = s2.set (n + 1) (.cells true (cE x0)) := ⟨_, rfl⟩
    have st3 := store8 (e := x0) b2 rfl
    rw [← hs3] at st3
    have b3 : s3.get (n + 1) = some (.cells true (cE x0)) := by rw [hs3]; exact St.get_set_same _ _ _
    have b3' : s3.get n = some (.cells true (cE e)) := by rw [hs3, St.get_set_ne _ _ (by omega)]; exact b2'
    have g3 : Gr s s3 := ⟨by rw [hs3, hs2]; exact St.wf_set (St.wf_push g1.wf _) (by simp [z1]) _, by rw [hs3]; simp [z2]; omega, fun b hb => by rw [hs3, St.get_set_ne _ _ (by omega), hs2, St.get_push_ne _ _ (by omega)]; exact g1.2.2 b hb⟩
    have m0 : aLoad1 (Z (.ptr n 0)) s3.get = some (I .i64 e.k) := aLoad1_of b3' rfl
    have m1 : aLoad1 (Z (.ptr n 1)) s3.get = some (I .i64 e.v) := aLoad1_of b3' rfl
    have m2 : aLoad1 (Z (.ptr n 2)) s3.get = some (I .i64 e.i) := aLoad1_of b3' rfl
    have m3 : aLoad1 (Z (.ptr n 3)) s3.get = some (I .i64 e.t) := aLoad1_of b3' rfl
    have m4 : aLoad1 (Z (.ptr n 4)) s3.get = some (I .i64 e.f) := aLoad1_of b3' rfl
    have m5 : aLoad1 (Z (.ptr n 5)) s3.get = some (I .i64 e.o) := aLoad1_of b3' rfl
    have m6 : aLoad1 (Z (.ptr n 6)) s3.get = some (I .u32 e.u) := aLoad1_of b3' rfl
    have m7 : aLoad1 (Z (.ptr n 7)) s3.get = some (Z (.str e.x)) := aLoad1_of b3' rfl
    -- the end: are they one?
    have fin : ∀ (u : St) (w : Ent), u.get n = some (.cells true (cE e)) → u.get (n + 1) = some (.cells true (cE w)) → aLoadN 8 (Z (.ptr (n + 1) 0)) u.get = some (AE w) ∧ aLoadN 8 (Z (.ptr n 0)) u.get = some (AE e) := fun u w h h' => ⟨load8 h', load8 h⟩
    have eqn := eqBE
    by_cases k3 : e.k = 3
    · obtain ⟨f1, f2⟩ := fin s3 x0 b3' b3
      have hm : mayE e = (decide (0 < e.v) && decide (e = x0)) := by
        unfold mayE
        rw [if_neg hv, if_neg (by omega), if_neg (by omega), if_pos k3, hx0, k3]
      rw [hm]
      refine ⟨s3, ?_, g3⟩
      rw [k3] at m0
      have hk : e.k = 3 := k3
      generalize R (d + 3) = r at *
      by_cases hv1 : e.v < 1
      · have : ¬ 0 < e.v := by omega
        simp [nw1, fa, l0, l1, v1, v2, ag, nw2, st3, m0, m1, hv1, this]
      · have h0 : 0 < e.v := by omega
        have hc : decide (x0 = e) = decide (e = x0) := decide_eq_decide.2 ⟨Eq.symm, Eq.symm⟩
        simp [nw1, fa, l0, l1, v1, v2, ag, nw2, st3, m0, m1, hv1, h0, f1, f2, eqn, hc]
    · by_cases k2 : e.k = 2
      · obtain ⟨s9, e9, r9, o9, q9, g9⟩ := st_cell (n := n) (m := n + 1) (j := 2) (v := .int .i64 e.i) g3 b3 (by omega) (by rw [cE_len]; omega) (by omega)
        have hx2 : (cE x0).set 2 (.int .i64 e.i) = cE { x0 with i := e.i } := rfl
        rw [hx2] at r9
        rw [b3'] at q9
        obtain ⟨f1, f2⟩ := fin s9 _ q9 r9
        have hm : mayE e = (idOk e.i && decide (e = { x0 with i := e.i })) := by
          unfold mayE
          rw [if_neg hv, if_neg (by omega), if_pos k2, hx0, k2]
        rw [hm]
        refine ⟨s9, ?_, g9⟩
        have o2 := o9 2
        rw [m2] at o2
        rw [k2] at m0
        have hc : decide ({ x0 with i := e.i } = e) = decide (e = { x0 with i := e.i }) := decide_eq_decide.2 ⟨Eq.symm, Eq.symm⟩
        generalize ({ x0 with i := e.i } : Ent) = xx at *
        generalize R (d + 3) = r at *
        by_cases h1 : e.i < 1
        · have hid : idOk e.i = false := by unfold idOk; rw [decide_eq_false (by omega)]; rfl
          simp [nw1, fa, fb, l0, l1, v1, v2, ag, nw2, st3, m0, m2, e9, o2, h1, hid, gtt]
        · by_cases h2 : 1073741824 < e.i
          · have hid : idOk e.i = false := by unfold idOk; rw [decide_eq_false (show ¬ e.i ≤ 1073741824 by omega), Bool.and_false]
            simp [nw1, fa, fb, l0, l1, v1, v2, ag, nw2, st3, m0, m2, e9, o2, h1, h2, hid]
          · have hid : idOk e.i = true := by unfold idOk; rw [decide_eq_true (show 1 ≤ e.i by omega), decide_eq_true (show e.i ≤ 1073741824 by omega)]; rfl
            simp [nw1, fa, fb, l0, l1, v1, v2, ag, nw2, st3, m0, m2, e9, o2, h1, h2, hid, f1, f2, eqn, hc]
      · by_cases k4 : e.k = 4
        · obtain ⟨s9, e9, r9, o9, q9, g9⟩ := st_cell (n := n) (m := n + 1) (j := 7) (v := .str e.x) g3 b3 (by omega) (by rw [cE_len]; omega) (by omega)
          have hx2 : (cE x0).set 7 (.str e.x) = cE { x0 with x := e.x } := rfl
          rw [hx2] at r9
          rw [b3'] at q9
          obtain ⟨s11, e11, g11⟩ := rparse_run (l := e.x) d g9.wf hx
          rw [rparseP_eq] at e11
          obtain ⟨s12, hs12⟩ : ∃ s12, s12 = s11.push (.cells true (cP pol0)) := ⟨_, rfl⟩
          have nw12 : aNew s11 (nCells [.int .i64 0, .int .i64 0, .int .i64 0, .int .i64 0, .int .i64 0, .int .i64 0]) = some (Z (.ptr s11.size 0), s12) := by rw [hs12]; rfl
          have b12 : s12.get s11.size = some (.cells true (cP pol0)) := by rw [hs12]; exact St.get_push_same _ _
          obtain ⟨s13, hs13⟩ : ∃ s13, s13 = s12.set s11.size (.cells true (cP (parseP e.x).1)) := ⟨_, rfl⟩
          have st13 := store6 (p := (parseP e.x).1) b12 rfl
          rw [← hs13] at st13
          have g13 : Gr s11 s13 := ⟨by rw [hs13, hs12]; exact St.wf_set (St.wf_push g11.wf _) (by simp) _, by rw [hs13, hs12]; simp, fun b hb => by rw [hs13, St.get_set_ne _ _ (by omega), hs12, St.get_push_ne _ _ (by omega)]⟩
          have gg := g11.trans g13
          have q13 : s13.get n = some (.cells true (cE e)) := by rw [gg.2.2 _ (g9.wf.lt q9)]; exact q9
          have r13 : s13.get (n + 1) = some (.cells true (cE { x0 with x := e.x })) := by rw [gg.2.2 _ (g9.wf.lt r9)]; exact r9
          obtain ⟨f1, f2⟩ := fin s13 _ q13 r13
          have o7 := o9 7
          rw [m7] at o7
          have p7 : aLoad1 (Z (.ptr n 7)) s13.get = some (Z (.str e.x)) := aLoad1_of q13 rfl
          have hm : mayE e = (decide (e.x.length ≤ 300) && decide (e = { x0 with x := e.x }) && decide ((parseP e.x).2.1 = 0)) := by
            unfold mayE
            rw [if_neg hv, if_neg (by omega), if_neg (by omega), if_neg (by omega), if_pos k4, hx0, k4]
          rw [hm]
          refine ⟨s13, ?_, g9.trans gg⟩
          rw [k4] at m0
          have hc : decide ({ x0 with x := e.x } = e) = decide (e = { x0 with x := e.x }) := decide_eq_decide.2 ⟨Eq.symm, Eq.symm⟩
          have hl : aLenStr (Z (.str e.x)) = some (I .i64 ((e.x.length : Nat) : Int)) := rfl
          have h300 : decide ((300 : Int) < ((e.x.length : Nat) : Int)) = !decide (e.x.length ≤ 300) := by
            by_cases h : e.x.length ≤ 300
            · rw [decide_eq_true h, decide_eq_false (by omega)]; rfl
            · rw [decide_eq_false h, decide_eq_true (by omega)]; rfl
          simp only [resP] at e11
          generalize ({ x0 with x := e.x } : Ent) = xx at *
          generalize ((e.x.length : Nat) : Int) = XL at *
          generalize R (d + 3) = r at *
          generalize decide (e.x.length ≤ 300) = b300 at *
          by_cases hp : (parseP e.x).2.1 = 0
          · rw [hp] at e11
            cases b300 with
            | true =>
              have h300' : decide ((300 : Int) < XL) = false := h300
              simp [nw1, fa, fb, l0, l1, v1, v2, ag, nw2, st3, m0, m7, e9, o7, e11, aExtract, nw12, st13, p7, hl, h300', f1, f2, eqn, hc, hp]
            | false =>
              have h300' : decide ((300 : Int) < XL) = true := h300
              simp [nw1, fa, fb, l0, l1, v1, v2, ag, nw2, st3, m0, m7, e9, o7, e11, aExtract, nw12, st13, p7, hl, h300', hp]
          · simp [nw1, fa, fb, l0, l1, v1, v2, ag, nw2, st3, m0, m7, e9, o7, e11, aExtract, nw12, st13, hp, gtt]
        · by_cases k1 : e.k = 1
          · obtain ⟨s4, e4, r4, o4, q4, g4⟩ := st_cell (n := n) (m := n + 1) (j := 2) (v := .int .i64 e.i) g3 b3 (by omega) (by rw [cE_len]; omega) (by omega)
            obtain ⟨s5, e5, r5, o5, q5, g5⟩ := st_cell (n := n) (m := n + 1) (j := 3) (v := .int .i64 e.t) g4 r4 (by omega) (by simp [cE]) (by omega)
            obtain ⟨s6, e6, r6, o6, q6, g6⟩ := st_cell (n := n) (m := n + 1) (j := 4) (v := .int .i64 e.f) g5 r5 (by omega) (by simp [cE]) (by omega)
            obtain ⟨s7, e7, r7, o7, q7, g7⟩ := st_cell (n := n) (m := n + 1) (j := 5) (v := .int .i64 e.o) g6 r6 (by omega) (by simp [cE]) (by omega)
            obtain ⟨s8, e8, r8, o8, q8, g8⟩ := st_cell (n := n) (m := n + 1) (j := 6) (v := .int .u32 e.u) g7 r7 (by omega) (by simp [cE]) (by omega)
            have hx2 : (((((cE x0).set 2 (.int .i64 e.i)).set 3 (.int .i64 e.t)).set 4 (.int .i64 e.f)).set 5 (.int .i64 e.o)).set 6 (.int .u32 e.u) = cE { x0 with i := e.i, t := e.t, f := e.f, o := e.o, u := e.u } := rfl
            rw [hx2] at r8
            rw [q7, q6, q5, q4, b3'] at q8
            obtain ⟨f1, f2⟩ := fin s8 _ q8 r8
            have O5 : ∀ k, aLoad1 (Z (.ptr n k)) s5.get = aLoad1 (Z (.ptr n k)) s3.get := fun k => (o5 k).trans (o4 k)
            have O6 : ∀ k, aLoad1 (Z (.ptr n k)) s6.get = aLoad1 (Z (.ptr n k)) s3.get := fun k => (o6 k).trans (O5 k)
            have O7 : ∀ k, aLoad1 (Z (.ptr n k)) s7.get = aLoad1 (Z (.ptr n k)) s3.get := fun k => (o7 k).trans (O6 k)
            have O8 : ∀ k, aLoad1 (Z (.ptr n k)) s8.get = aLoad1 (Z (.ptr n k)) s3.get := fun k => (o8 k).trans (O7 k)
            have hm : mayE e = (decide (e.x = []) && idOk e.i && decide (0 ≤ e.t) && decide (e.t < 4) && decide (0 ≤ e.f) && decide (e.f < e.o) && decide (e.o ≤ 1099511627776)) := by
              unfold mayE
              rw [if_neg hv, if_pos k1]
            have hc : decide ({ x0 with i := e.i, t := e.t, f := e.f, o := e.o, u := e.u } = e) = decide (e.x = []) := by
              refine decide_eq_decide.2 ⟨fun h => ?_, fun h => ?_⟩
              · have := congrArg Ent.x h
                rw [hx0] at this
                exact this.symm
              · rw [hx0]
                show Ent.mk e.k e.v e.i e.t e.f e.o e.u [] = e
                rw [← h]
            rw [hm]
            refine ⟨s8, ?_, g8⟩
            rw [k1] at m0
            clear o5 o6 o7 o8 r4 r5 r6 r7 q4 q5 q6 q7 hx2
            generalize ({ x0 with i := e.i, t := e.t, f := e.f, o := e.o, u := e.u } : Ent) = xx at *
            generalize R (d + 3) = r at *
            have hid : idOk e.i = (decide (1 ≤ e.i) && decide (e.i ≤ 1073741824)) := rfl
            rw [hid]
            by_cases h1 : e.i < 1
            · have : ¬ 1 ≤ e.i := by omega
              simp [nw1, fa, fb, l0, l1, v1, v2, ag, nw2, st3, m0, m2, m3, m4, m5, m6, e4, e5, e6, e7, e8, o4, O5, O6, O7, O8, h1, this, gtt]
            · have h1' : 1 ≤ e.i := by omega
              by_cases h2 : 1073741824 < e.i
              · have : ¬ e.i ≤ 1073741824 := by omega
                simp [nw1, fa, fb, l0, l1, v1, v2, ag, nw2, st3, m0, m2, m3, m4, m5, m6, e4, e5, e6, e7, e8, o4, O5, O6, O7, O8, h1, h2, this, gtt]
              · have h2' : e.i ≤ 1073741824 := by omega
                by_cases h3 : e.t < 0
                · have : ¬ 0 ≤ e.t := by omega
                  simp [nw1, fa, fb, l0, l1, v1, v2, ag, nw2, st3, m0, m2, m3, m4, m5, m6, e4, e5, e6, e7, e8, o4, O5, O6, O7, O8, h1, h2, h3, this, gtt]
                · have h3' : 0 ≤ e.t := by omega
                  by_cases h4 : 3 < e.t
                  · have : ¬ e.t < 4 := by omega
                    simp [nw1, fa, fb, l0, l1, v1, v2, ag, nw2, st3, m0, m2, m3, m4, m5, m6, e4, e5, e6, e7, e8, o4, O5, O6, O7, O8, h1, h2, h3, h4, this, gtt]
                  · have h4' : e.t < 4 := by omega
                    by_cases h5 : e.f < 0
                    · have : ¬ 0 ≤ e.f := by omega
                      simp [nw1, fa, fb, l0, l1, v1, v2, ag, nw2, st3, m0, m2, m3, m4, m5, m6, e4, e5, e6, e7, e8, o4, O5, O6, O7, O8, h1, h2, h3, h4, h5, this, gtt]
                    · have h5' : 0 ≤ e.f := by omega
                      by_cases h6 : e.o ≤ e.f
                      · have : ¬ e.f < e.o := by omega
                        simp [nw1, fa, fb, l0, l1, v1, v2, ag, nw2, st3, m0, m2, m3, m4, m5, m6, e4, e5, e6, e7, e8, o4, O5, O6, O7, O8, h1, h2, h3, h4, h5, h6, this, gtt]
                      · have h6' : e.f < e.o := by omega
                        by_cases h7 : 1099511627776 < e.o
                        · have : ¬ e.o ≤ 1099511627776 := by omega
                          simp [nw1, fa, fb, l0, l1, v1, v2, ag, nw2, st3, m0, m2, m3, m4, m5, m6, e4, e5, e6, e7, e8, o4, O5, O6, O7, O8, h1, h2, h3, h4, h5, h6, h7, this, gtt]
                        · have h7' : e.o ≤ 1099511627776 := by omega
                          simp [nw1, fa, fb, l0, l1, v1, v2, ag, nw2, st3, m0, m2, m3, m4, m5, m6, e4, e5, e6, e7, e8, o4, O5, O6, O7, O8, h1, h2, h3, h4, h5, h6, h7, h1', h2', h3', h4', h5', h6', h7', f1, f2, eqn, hc]
          · have hm : mayE e = false := by
              unfold mayE
              rw [if_neg hv, if_neg k1, if_neg k2, if_neg k3, if_neg k4]
            rw [hm]
            refine ⟨s3, ?_, g3⟩
            generalize R (d + 3) = r at *
            simp [nw1, fa, fb, l0, l1, v1, v2, ag, nw2, st3, m0, k1, k2, k3, k4]
end
end Go.Proofs.YtlhbidbdmdcdeaaGreatDoor

/-
  A state of entries in a store: what is asked, what comes next. No conditions but those named in each line.
-/
namespace Go.Proofs.YtlhbidbdmdcdeaaGreatDoor
open Go Go.Abs Go.Abs.F
set_option linter.unusedVariables false

def mapE (ever : List Int) : List (S × V) := ever.map fun i => (S.int .i64 i, V.s (.bool true))
def cF (x : S) (mp : Nat) (q : FoS) : List S := [x, .map mp, .int .i64 q.rule.a0, .int .i64 q.rule.a1, .int .i64 q.rule.a2, .int .i64 q.rule.a3, .int .i64 q.rule.c, .int .i64 q.rule.n, .int .i64 q.v, .int .i64 q.w]

theorem find_ever (i : Int) : ∀ (l : List Int) (k : Nat), (i ∈ l → ∃ j, aFind (.int .i64 i) (mapE l) k = some (some (j, V.s (.bool true)))) ∧ (i ∉ l → aFind (.int .i64 i) (mapE l) k = some none)
  | [], k => ⟨fun h => by simp at h, fun _ => rfl⟩
  | a :: l, k => by
    obtain ⟨h1, h2⟩ := find_ever i l (k + 1)
    by_cases e : i = a
    · subst e
      refine ⟨fun _ => ⟨k, by simp [mapE, aFind, keyEq]⟩, fun h => (h (by simp)).elim⟩
    · have hk : aFind (.int .i64 i) (mapE (a :: l)) k = aFind (.int .i64 i) (mapE l) (k + 1) := by simp [mapE, aFind, keyEq, e]
      rw [hk]
      exact ⟨fun h => h1 (by rcases List.mem_cons.1 h with h | h; exact (e h).elim; exact h), fun h => h2 fun hh => h (List.mem_cons_of_mem _ hh)⟩

theorem look_ever {g : Mem} {mp : Nat} {ever : List Int} (h : g mp = some (.map (mapE ever))) (i : Int) : Go.Abs.F.look .i false (.s (.bool false)) (Z (.map mp)) (I .i64 i) g = some (B (decide (i ∈ ever))) := by
  obtain ⟨h1, h2⟩ := find_ever i ever 0
  have hk : isKey .i (I .i64 i) = true := rfl
  unfold Go.Abs.F.look
  rw [if_pos hk]
  by_cases hi : i ∈ ever
  · obtain ⟨j, hj⟩ := h1 hi
    simp only [aLookup, h, hj, decide_eq_true hi]
    rfl
  · simp only [aLookup, h, h2 hi, decide_eq_false hi]
    rfl

section
variable {s0 s t : St} {b mp : Nat} {q : FoS} {x y : S} {e : Ent}

theorem mset_ever {ever : List Int} (h : s.get mp = some (.map (mapE ever))) {i : Int} (hi : i ∉ ever) : mset .i (Z (.map mp)) (I .i64 i) (B true) s = some (tt, s.set mp (.map (mapE (ever ++ [i])))) := by
  obtain ⟨_, h2⟩ := find_ever i ever 0
  have hk : isKey .i (I .i64 i) = true := rfl
  unfold mset
  rw [if_pos hk]
  simp only [aMapSet, h, h2 hi]
  simp [mapE]

structure HF (s0 s : St) (b : Nat) (q : FoS) (x : S) (mp : Nat) : Prop where
  gr : Gr s0 s
  hb : s0.size ≤ b
  hm : s0.size ≤ mp
  st : s.get b = some (.cells true (cF x mp q))
  mpE : s.get mp = some (.map (mapE q.ever))
  ins : InS s x q.l
  ow : ∀ c, own x = some c → s0.size ≤ c ∧ c ≠ b ∧ c ≠ mp

theorem HF.bm (h : HF s0 s b q x mp) : b ≠ mp := fun e => by
  have h1 := h.st
  rw [e, h.mpE] at h1
  cases h1

theorem HF.gr' (h : HF s0 s b q x mp) (g : Gr s t) : HF s0 t b q x mp :=
  ⟨h.gr.trans g, h.hb, h.hm, g.get h.st h.gr.wf, g.get h.mpE h.gr.wf, h.ins.keep fun c hc => g.2.2 c (h.ins.lt h.gr.wf hc), h.ow⟩

theorem stAt_run (d : Nat) (h : HF s0 s b q x mp) (hl : q.l.length ≤ 8000) (id : Int) : ∃ k t, R (d + 3) 73 [Z (.ptr b 0), I .i64 id] s = some (.tup [.s (.int .i64 ((k : Nat) : Int)), .s (.bool (hitI q.l id k))], t) ∧ Gr s t ∧ Found q.l id k := by
  obtain ⟨k, t, e1, g, f⟩ := bsf_run d h.gr.wf h.ins hl id
  refine ⟨k, t, ?_, g, f⟩
  rw [f73_run]
  unfold f73
  have l0 : aLoad1 (Z (.ptr b 0)) s.get = some (Z x) := aLoad1_of h.st rfl
  generalize R (d + 2) = r at *
  generalize ((k : Nat) : Int) = K at *
  simp [l0, e1, aExtract, retT, allV]

set_option maxHeartbeats 1000000 in
theorem stAsks_run (d : Nat) (h : HF s0 s b q x mp) (hq : FOk q) (hl : q.l.length ≤ 8000) (e : Ent) : ∃ t, R (d + 9) 72 [Z (.ptr b 0), AE e] s = some (I .i64 (asksP q e), t) ∧ Gr s t := by
  rw [f72_run]
  unfold f72
  obtain ⟨n, hn⟩ : ∃ n, n = s.size := ⟨_, rfl⟩
  obtain ⟨s1, hs1⟩ : ∃ s1, s1 = s.push (.cells true (cE e)) := ⟨_, rfl⟩
  have nw1 : aNew s (nBox (AE e)) = some (Z (.ptr n 0), s1) := by rw [hs1, hn]; rfl
  have g1 : Gr s s1 := by rw [hs1]; exact Gr.push h.gr.wf _
  have b1 : s1.get n = some (.cells true (cE e)) := by rw [hs1, hn]; exact St.get_push_same _ _
  have l1 : aLoad1 (Z (.ptr n 2)) s1.get = some (I .i64 e.i) := aLoad1_of b1 rfl
  obtain ⟨k, s2, e2, g2, hF⟩ := stAt_run (d + 5) (h.gr' g1) hl e.i
  have b2 : s2.get n = some (.cells true (cE e)) := g2.get b1 g1.wf
  have l2 := load8 (g := s2.get) b2
  obtain ⟨s3, e3, g3⟩ := mayE_run d g2.wf e
  have b3 : s3.get n = some (.cells true (cE e)) := g3.get b2 g2.wf
  have h3 := ((h.gr' g1).gr' g2).gr' g3
  have k3 : aLoad1 (Z (.ptr n 0)) s3.get = some (I .i64 e.k) := aLoad1_of b3 rfl
  have v3 : aLoad1 (Z (.ptr n 1)) s3.get = some (I .i64 e.v) := aLoad1_of b3 rfl
  have i3 : aLoad1 (Z (.ptr n 2)) s3.get = some (I .i64 e.i) := aLoad1_of b3 rfl
  have m3 : aLoad1 (Z (.ptr b 1)) s3.get = some (Z (.map mp)) := aLoad1_of h3.st rfl
  have w3 : aLoad1 (Z (.ptr b 9)) s3.get = some (I .i64 q.w) := aLoad1_of h3.st rfl
  have lk := look_ever h3.mpE e.i
  refine ⟨s3, ?_, (g1.trans g2).trans g3⟩
  simp only [Nat.add_assoc, Nat.reduceAdd] at e2
  unfold asksP
  cases hm : mayE e with
  | false =>
    rw [hm] at e3
    generalize R (d + 8) = r at *
    generalize ((k : Nat) : Int) = K at *
    generalize hitI q.l e.i k = hit at *
    simp [nw1, l1, e2, aExtract, l2, e3]
  | true =>
    rw [hm] at e3
    obtain ⟨v0, v1, k0, k1, q1, q2, q3, q4⟩ := mayE_range hm
    rcases (by omega : e.k = 1 ∨ e.k = 2 ∨ e.k = 3 ∨ e.k = 4) with hk | hk | hk | hk
    · by_cases hi : e.i ∈ q.ever
      · rw [decide_eq_true hi] at lk
        generalize R (d + 8) = r at *
        generalize ((k : Nat) : Int) = K at *
        generalize hitI q.l e.i k = hit at *
        simp [nw1, l1, e2, aExtract, l2, e3, k3, hk, m3, i3, lk, hi]
      · rw [decide_eq_false hi] at lk
        generalize R (d + 8) = r at *
        generalize ((k : Nat) : Int) = K at *
        generalize hitI q.l e.i k = hit at *
        by_cases hv : e.v < q.w
        · simp [nw1, l1, e2, aExtract, l2, e3, k3, hk, m3, i3, lk, hi, v3, w3, hv]
        · simp [nw1, l1, e2, aExtract, l2, e3, k3, hk, m3, i3, lk, hi, v3, w3, hv]
    · obtain ⟨i0, i1, _⟩ := q2 hk
      obtain ⟨_, hh⟩ := found_eq hF hq.up hq.rng i0 i1
      rw [hh] at e2
      generalize R (d + 8) = r at *
      generalize ((k : Nat) : Int) = K at *
      cases ht : thereP q.l e.i with
      | false =>
        rw [ht] at e2
        simp [nw1, l1, e2, aExtract, l2, e3, k3, hk, m3, i3, v3, w3]
      | true =>
        rw [ht] at e2
        by_cases hv : e.v < q.w
        · simp [nw1, l1, e2, aExtract, l2, e3, k3, hk, m3, i3, v3, w3, hv]
        · simp [nw1, l1, e2, aExtract, l2, e3, k3, hk, m3, i3, v3, w3, hv]
    · generalize R (d + 8) = r at *
      generalize ((k : Nat) : Int) = K at *
      generalize hitI q.l e.i k = hit at *
      by_cases hv : e.v < q.w
      · simp [nw1, l1, e2, aExtract, l2, e3, k3, hk, m3, i3, v3, w3, hv]
      · simp [nw1, l1, e2, aExtract, l2, e3, k3, hk, m3, i3, v3, w3, hv]
    · generalize R (d + 8) = r at *
      generalize ((k : Nat) : Int) = K at *
      generalize hitI q.l e.i k = hit at *
      by_cases hv : e.v < q.w
      · simp [nw1, l1, e2, aExtract, l2, e3, k3, hk, m3, i3, v3, w3, hv]
      · simp [nw1, l1, e2, aExtract, l2, e3, k3, hk, m3, i3, v3, w3, hv]
end
end Go.Proofs.YtlhbidbdmdcdeaaGreatDoor

/-
  The state that takes an entry. No conditions but those named in each line.
-/
namespace Go.Proofs.YtlhbidbdmdcdeaaGreatDoor
open Go Go.Abs Go.Abs.F
set_option linter.unusedVariables false
section
variable {s0 s t : St} {b mp : Nat} {q : FoS} {x y : S} {e : Ent}

/-- A cell of the state is written. -/
theorem stSet {σ : St} {q' : FoS} {o : Nat} {x' z : S} (h : σ.get b = some (.cells true (cF x mp q))) (ho : o < 10) (hz : setRange (cF x mp q) o [z] = cF x' mp q') : aStore 1 (Z (.ptr b o)) (Z z) σ = some (tt, σ.set b (.cells true (cF x' mp q'))) := by
  rw [aStore1_of h (by simpa [cF] using ho), hz]

set_option maxHeartbeats 2000000 in
theorem next_run' (d : Nat) (h : HF s0 s b q x mp) (hq : FOk q) (hl : q.ever.length ≤ 8000) (e : Ent) : ∃ t y, R (d + 10) 47 [Z (.ptr b 0), AE e] s = some (I .i64 (asksP q e), t) ∧ HF s0 t b (if asksP q e = 0 then nextP q e else q) y mp := by
  rw [f47_run]
  unfold f47
  have hll : q.l.length ≤ 8000 := Nat.le_trans hq.len hl
  obtain ⟨n, hn⟩ : ∃ n, n = s.size := ⟨_, rfl⟩
  obtain ⟨s1, hs1⟩ : ∃ s1, s1 = s.push (.cells true (cE e)) := ⟨_, rfl⟩
  have nw1 : aNew s (nBox (AE e)) = some (Z (.ptr n 0), s1) := by rw [hs1, hn]; rfl
  have g1 : Gr s s1 := by rw [hs1]; exact Gr.push h.gr.wf _
  have b1 : s1.get n = some (.cells true (cE e)) := by rw [hs1, hn]; exact St.get_push_same _ _
  have l1 := load8 (g := s1.get) b1
  have h1 := h.gr' g1
  obtain ⟨s2, e2, g2⟩ := stAsks_run d h1 hq hll e
  have h2 := h1.gr' g2
  have b2 : s2.get n = some (.cells true (cE e)) := g2.get b1 g1.wf
  by_cases ha : asksP q e = 0
  · rw [if_pos ha]
    rw [ha] at e2 ⊢
    have i2 : aLoad1 (Z (.ptr n 2)) s2.get = some (I .i64 e.i) := aLoad1_of b2 rfl
    obtain ⟨k, s3, e3, g3, hF⟩ := stAt_run (d + 6) h2 hll e.i
    have h3 := h2.gr' g3
    have b3 : s3.get n = some (.cells true (cE e)) := g3.get b2 g2.wf
    have hns3 := g3.wf.lt b3
    have k3 : aLoad1 (Z (.ptr n 0)) s3.get = some (I .i64 e.k) := aLoad1_of b3 rfl
    have hm : mayE e = true := by
      unfold asksP at ha
      by_cases hm : mayE e = true
      · exact hm
      · rw [if_neg hm] at ha; cases ha
    obtain ⟨v0, v1, k0, k1, q1, q2, q3, q4⟩ := mayE_range hm
    have hbs := h.gr.wf.lt h.st
    have hms := h.gr.wf.lt h.mpE
    have hbn : b ≠ n := by omega
    have hmn : mp ≠ n := by omega
    have hxn : ∀ c, own x = some c → c < n := fun c hc => by rw [hn]; exact h.ins.lt h.gr.wf hc
    have hbm := h.bm
    simp only [Nat.add_assoc, Nat.reduceAdd] at e3
    -- the last step: the view is kept
    have fin : ∀ (σ : St) (y : S) (q' : FoS), HF s0 σ b q' y mp → σ.get n = some (.cells true (cE e)) → ∃ τ, aStore 1 (Z (.ptr b 9)) (I .i64 e.v) σ = some (tt, τ) ∧ aLoad1 (Z (.ptr n 1)) σ.get = some (I .i64 e.v) ∧ HF s0 τ b ⟨q'.l, q'.ever, q'.rule, q'.v, e.v⟩ y mp := fun σ y q' H hb => by
      refine ⟨_, stSet (q' := ⟨q'.l, q'.ever, q'.rule, q'.v, e.v⟩) (x' := y) H.st (by omega) rfl, aLoad1_of hb rfl, ?_⟩
      have hbσ := H.gr.wf.lt H.st
      exact ⟨⟨St.wf_set H.gr.wf hbσ _, by simpa using H.gr.2.1, fun c hc => by rw [St.get_set_ne _ _ (by have := H.hb; omega)]; exact H.gr.2.2 c hc⟩, H.hb, H.hm, St.get_set_same _ _ _, by rw [St.get_set_ne _ _ (Ne.symm H.bm)]; exact H.mpE,
        H.ins.keep fun c hc => St.get_set_ne _ _ (H.ow c hc).2.1, H.ow⟩
    unfold nextP
    rcases (by omega : e.k = 1 ∨ e.k = 2 ∨ e.k = 3 ∨ e.k = 4) with hk | hk | hk | hk
    · -- a segment comes
      rw [if_pos hk]
      obtain ⟨hx0, i0, i1, _⟩ := q1 hk
      have hni : e.i ∉ q.ever := by
        unfold asksP at ha
        rw [if_pos hm] at ha
        intro hin
        rw [if_pos ⟨hk, hin⟩] at ha
        cases ha
      obtain ⟨hkk, _⟩ := found_eq hF hq.up hq.rng i0 i1
      subst hkk
      have m3 : aLoad1 (Z (.ptr b 1)) s3.get = some (Z (.map mp)) := aLoad1_of h3.st rfl
      have i3 : aLoad1 (Z (.ptr n 2)) s3.get = some (I .i64 e.i) := aLoad1_of b3 rfl
      have ms := mset_ever h3.mpE hni
      obtain ⟨s4, hs4⟩ : ∃ s4, s4 = s3.set mp (.map (mapE (q.ever ++ [e.i]))) := ⟨_, rfl⟩
      rw [← hs4] at ms
      have hms3 := g3.wf.lt h3.mpE
      have o4 : ∀ c, c ≠ mp → s4.get c = s3.get c := fun c hc => by rw [hs4]; exact St.get_set_ne _ _ hc
      have wf4 : s4.wf := by rw [hs4]; exact St.wf_set g3.wf hms3 _
      have z4 : s4.size = s3.size := by rw [hs4]; simp
      have b4 : s4.get n = some (.cells true (cE e)) := by rw [o4 n (Ne.symm hmn)]; exact b3
      have st4 : s4.get b = some (.cells true (cF x mp q)) := by rw [o4 b hbm]; exact h3.st
      have x4 : aLoad1 (Z (.ptr b 0)) s4.get = some (Z x) := aLoad1_of st4 rfl
      have f2 : aLoad1 (Z (.ptr n 2)) s4.get = some (I .i64 e.i) := aLoad1_of b4 rfl
      have f3 : aLoad1 (Z (.ptr n 3)) s4.get = some (I .i64 e.t) := aLoad1_of b4 rfl
      have f4 : aLoad1 (Z (.ptr n 4)) s4.get = some (I .i64 e.f) := aLoad1_of b4 rfl
      have f5 : aLoad1 (Z (.ptr n 5)) s4.get = some (I .i64 e.o) := aLoad1_of b4 rfl
      have f6 : aLoad1 (Z (.ptr n 6)) s4.get = some (I .u32 e.u) := aLoad1_of b4 rfl
      have ag : asAggT (aFill [.int .i64 0, .int .i64 0, .int .i64 0, .int .i64 0, .int .u32 0] [(0, 1, I .i64 e.i), (1, 1, I .i64 e.t), (2, 1, I .i64 e.f), (3, 1, I .i64 e.o), (4, 1, I .u32 e.u)]) = some (AI (infE e)) := rfl
      obtain ⟨s5, hs5⟩ : ∃ s5, s5 = s4.push (.cells true (cI (infE e))) := ⟨_, rfl⟩
      have nw5 : aNew s4 (nSlice 1 (aFill [.int .i64 0, .int .i64 0, .int .i64 0, .int .i64 0, .int .u32 0] [(0, 5, AI (infE e))])) = some (Z (.sl s4.size 0 1 (.known 1)), s5) := by rw [hs5]; rfl
      have g5 : Gr s4 s5 := by rw [hs5]; exact Gr.push wf4 _
      have j5 : s5.get s4.size = some (.cells true (cI (infE e))) := by rw [hs5]; exact St.get_push_same _ _
      have ins4 : InS s4 x q.l := h3.ins.keep fun c hc => o4 c (h.ow c hc).2.2
      have ins5 : InS s5 x q.l := ins4.keep fun c hc => g5.2.2 c (ins4.lt wf4 hc)
      obtain ⟨y, s6, e6, N6⟩ := ins_run (d + 8) g5.wf ins5 hll (kOf_le q.l e.i) j5 (fun c hc => by have := ins4.lt wf4 hc; omega)
      have z5 : s4.size < s5.size := by rw [hs5]; simp
      have xb : own x ≠ some b := fun hc => (h.ow b hc).2.1 rfl
      have xm : own x ≠ some mp := fun hc => (h.ow mp hc).2.2 rfl
      have xn : own x ≠ some n := fun hc => by have := hxn n hc; omega
      have st6 : s6.get b = some (.cells true (cF x mp q)) := by rw [N6.old b (by omega) xb, g5.2.2 b (by omega)]; exact st4
      have mp6 : s6.get mp = some (.map (mapE (q.ever ++ [e.i]))) := by rw [N6.old mp (by omega) xm, g5.2.2 mp (by omega), hs4]; exact St.get_set_same _ _ _
      have b6 : s6.get n = some (.cells true (cE e)) := by rw [N6.old n (by omega) xn, g5.2.2 n (by omega)]; exact b4
      obtain ⟨Q, hQ⟩ : ∃ Q : FoS, Q = ⟨insL q.l (infE e), q.ever ++ [e.i], q.rule, q.v, q.w⟩ := ⟨_, rfl⟩
      have sS := stSet (q' := Q) (x' := y) (z := y) st6 (show 0 < 10 by omega) (by rw [hQ]; rfl)
      obtain ⟨s7, hs7⟩ : ∃ s7, s7 = s6.set b (.cells true (cF y mp Q)) := ⟨_, rfl⟩
      rw [← hs7] at sS
      have yo : ∀ c, own y = some c → s0.size ≤ c ∧ c ≠ b ∧ c ≠ mp := fun c hc => by
        rcases N6.new c hc with hx | hx
        · exact h.ow c hx
        · have := h.hb; have := h.hm; have := h.gr.2.1
          exact ⟨by omega, by omega, by omega⟩
      have H7 : HF s0 s7 b Q y mp := by
        have hb6 := N6.wf.lt st6
        refine ⟨⟨by rw [hs7]; exact St.wf_set N6.wf hb6 _, ?_, fun c hc => ?_⟩, h.hb, h.hm, by rw [hs7]; exact St.get_set_same _ _ _, ?_, ?_, yo⟩
        · rw [hs7]
          have := h.gr.2.1; have := g1.2.1; have := g2.2.1; have := g3.2.1; have := N6.le
          simp only [St.size_set]; omega
        · have h01 := h.gr.2.1
          rw [hs7, St.get_set_ne _ _ (by have := h.hb; omega), N6.old c (by omega) (fun hc' => by have := (h.ow c hc').1; omega), g5.2.2 c (by omega), o4 c (by have := h.hm; omega)]
          exact h3.gr.2.2 c hc
        · rw [hs7, St.get_set_ne _ _ (Ne.symm hbm), mp6, hQ]
        · rw [hQ]
          exact N6.ins.keep fun c hc => by rw [hs7]; exact St.get_set_ne _ _ (yo c hc).2.1
      have b7 : s7.get n = some (.cells true (cE e)) := by rw [hs7, St.get_set_ne _ _ (Ne.symm hbn)]; exact b6
      obtain ⟨s8, st8, ld8, H8⟩ := fin s7 y Q H7 b7
      rw [hQ] at H8
      refine ⟨s8, y, ?_, H8⟩
      clear fin
      simp only [Nat.add_assoc, Nat.reduceAdd] at e6
      generalize R (d + 9) = r at *
      generalize ((kOf q.l e.i : Nat) : Int) = K at *
      generalize hitI q.l e.i (kOf q.l e.i) = hit at *
      simp [nw1, l1, e2, i2, e3, aExtract, k3, hk, m3, i3, ms, x4, f2, f3, f4, f5, f6, ag, nw5, e6, sS, ld8, st8, gtt]
    · -- a segment goes
      rw [if_neg (by omega), if_pos hk]
      obtain ⟨i0, i1, _⟩ := q2 hk
      obtain ⟨hkk, hhit⟩ := found_eq hF hq.up hq.rng i0 i1
      have hth : thereP q.l e.i = true := by
        unfold asksP at ha
        rw [if_pos hm, if_neg (by omega)] at ha
        cases ht : thereP q.l e.i with
        | true => rfl
        | false => rw [if_pos ⟨hk, ht⟩] at ha; cases ha
      subst hkk
      have hkl := kOf_lt hq.up hth
      have x3 : aLoad1 (Z (.ptr b 0)) s3.get = some (Z x) := aLoad1_of h3.st rfl
      have w1 : IntKind.i64.wrap (((kOf q.l e.i : Nat) : Int) + 1) = ((kOf q.l e.i + 1 : Nat) : Int) := by rw [wrap_in _ (by omega) (by omega)]; omega
      obtain ⟨y, s6, e6, N6⟩ := del_run (d + 8) g3.wf h3.ins hll hkl
      have xb : own x ≠ some b := fun hc => (h.ow b hc).2.1 rfl
      have xm : own x ≠ some mp := fun hc => (h.ow mp hc).2.2 rfl
      have xn : own x ≠ some n := fun hc => by have := hxn n hc; omega
      have hb3 := g3.wf.lt h3.st
      have hm3 := g3.wf.lt h3.mpE
      have st6 : s6.get b = some (.cells true (cF x mp q)) := by rw [N6.old b hb3 xb]; exact h3.st
      have mp6 : s6.get mp = some (.map (mapE q.ever)) := by rw [N6.old mp hm3 xm]; exact h3.mpE
      have b6 : s6.get n = some (.cells true (cE e)) := by rw [N6.old n hns3 xn]; exact b3
      obtain ⟨Q, hQ⟩ : ∃ Q : FoS, Q = ⟨delL q.l e.i, q.ever, q.rule, q.v, q.w⟩ := ⟨_, rfl⟩
      have sS := stSet (q' := Q) (x' := y) (z := y) st6 (show 0 < 10 by omega) (by rw [hQ]; rfl)
      obtain ⟨s7, hs7⟩ : ∃ s7, s7 = s6.set b (.cells true (cF y mp Q)) := ⟨_, rfl⟩
      rw [← hs7] at sS
      have yo : ∀ c, own y = some c → s0.size ≤ c ∧ c ≠ b ∧ c ≠ mp := fun c hc => by
        rcases N6.new c hc with hx | hx
        · exact h.ow c hx
        · have := h.hb; have := h.hm; have := h3.gr.2.1
          exact ⟨by omega, by omega, by omega⟩
      have H7 : HF s0 s7 b Q y mp := by
        have hb6 := N6.wf.lt st6
        refine ⟨⟨by rw [hs7]; exact St.wf_set N6.wf hb6 _, ?_, fun c hc => ?_⟩, h.hb, h.hm, by rw [hs7]; exact St.get_set_same _ _ _, ?_, ?_, yo⟩
        · rw [hs7]
          have := h3.gr.2.1; have := N6.le
          simp only [St.size_set]; omega
        · have h03 := h3.gr.2.1
          rw [hs7, St.get_set_ne _ _ (by have := h.hb; omega), N6.old c (by omega) (fun hc' => by have := (h.ow c hc').1; omega)]
          exact h3.gr.2.2 c hc
        · rw [hs7, St.get_set_ne _ _ (Ne.symm hbm), mp6, hQ]
        · rw [hQ]
          exact N6.ins.keep fun c hc => by rw [hs7]; exact St.get_set_ne _ _ (yo c hc).2.1
      have b7 : s7.get n = some (.cells true (cE e)) := by rw [hs7, St.get_set_ne _ _ (Ne.symm hbn)]; exact b6
      obtain ⟨s8, st8, ld8, H8⟩ := fin s7 y Q H7 b7
      rw [hQ] at H8
      refine ⟨s8, y, ?_, H8⟩
      clear fin
      simp only [Nat.add_assoc, Nat.reduceAdd] at e6
      generalize R (d + 9) = r at *
      generalize ((kOf q.l e.i + 1 : Nat) : Int) = K1 at *
      generalize ((kOf q.l e.i : Nat) : Int) = K at *
      generalize hitI q.l e.i (kOf q.l e.i) = hit at *
      simp [nw1, l1, e2, i2, e3, aExtract, k3, hk, x3, w1, e6, sS, ld8, st8, gtt]
    · -- a view
      rw [if_neg (by omega), if_neg (by omega), if_pos hk]
      have v3 : aLoad1 (Z (.ptr n 1)) s3.get = some (I .i64 e.v) := aLoad1_of b3 rfl
      obtain ⟨Q, hQ⟩ : ∃ Q : FoS, Q = ⟨q.l, q.ever, q.rule, e.v, q.w⟩ := ⟨_, rfl⟩
      have sS := stSet (q' := Q) (x' := x) (z := .int .i64 e.v) h3.st (show 8 < 10 by omega) (by rw [hQ]; rfl)
      obtain ⟨s7, hs7⟩ : ∃ s7, s7 = s3.set b (.cells true (cF x mp Q)) := ⟨_, rfl⟩
      rw [← hs7] at sS
      have H7 : HF s0 s7 b Q x mp := by
        have hb3 := g3.wf.lt h3.st
        refine ⟨⟨by rw [hs7]; exact St.wf_set g3.wf hb3 _, by rw [hs7]; simpa using h3.gr.2.1, fun c hc => by rw [hs7, St.get_set_ne _ _ (by have := h.hb; omega)]; exact h3.gr.2.2 c hc⟩, h.hb, h.hm, by rw [hs7]; exact St.get_set_same _ _ _, ?_, ?_, h.ow⟩
        · rw [hs7, St.get_set_ne _ _ (Ne.symm hbm), h3.mpE, hQ]
        · rw [hQ]
          exact h3.ins.keep fun c hc => by rw [hs7]; exact St.get_set_ne _ _ (h.ow c hc).2.1
      have b7 : s7.get n = some (.cells true (cE e)) := by rw [hs7, St.get_set_ne _ _ (Ne.symm hbn)]; exact b3
      obtain ⟨s8, st8, ld8, H8⟩ := fin s7 x Q H7 b7
      rw [hQ] at H8
      refine ⟨s8, x, ?_, H8⟩
      clear fin
      generalize R (d + 9) = r at *
      generalize ((k : Nat) : Int) = K at *
      generalize hitI q.l e.i k = hit at *
      simp [nw1, l1, e2, i2, e3, aExtract, k3, hk, v3, sS, ld8, st8, gtt]
    · -- a rule
      rw [if_neg (by omega), if_neg (by omega), if_neg (by omega)]
      have x3 : aLoad1 (Z (.ptr n 7)) s3.get = some (Z (.str e.x)) := aLoad1_of b3 rfl
      have hxl := mayE_x hm
      obtain ⟨s4, e4, g4⟩ := parse_run (d + 2) g3.wf (l := e.x) (by omega)
      have h4 := h3.gr' g4
      have b4 : s4.get n = some (.cells true (cE e)) := g4.get b3 g3.wf
      obtain ⟨Q, hQ⟩ : ∃ Q : FoS, Q = ⟨q.l, q.ever, (parseP e.x).1, q.v, q.w⟩ := ⟨_, rfl⟩
      obtain ⟨p, hp⟩ : ∃ p, p = (parseP e.x).1 := ⟨_, rfl⟩
      rw [← hp] at e4 hQ
      have sS : aStore 6 (Z (.ptr b 2)) (AP p) s4 = some (tt, s4.set b (.cells true (cF x mp Q))) := by
        simp only [aStore, h4.st]
        rw [if_pos ⟨rfl, by simp [cF]⟩, hQ]
        rfl
      obtain ⟨s7, hs7⟩ : ∃ s7, s7 = s4.set b (.cells true (cF x mp Q)) := ⟨_, rfl⟩
      rw [← hs7] at sS
      have H7 : HF s0 s7 b Q x mp := by
        have hb3 := g4.wf.lt h4.st
        refine ⟨⟨by rw [hs7]; exact St.wf_set g4.wf hb3 _, by rw [hs7]; simpa using h4.gr.2.1, fun c hc => by rw [hs7, St.get_set_ne _ _ (by have := h.hb; omega)]; exact h4.gr.2.2 c hc⟩, h.hb, h.hm, by rw [hs7]; exact St.get_set_same _ _ _, ?_, ?_, h.ow⟩
        · rw [hs7, St.get_set_ne _ _ (Ne.symm hbm), h4.mpE, hQ]
        · rw [hQ]
          exact h4.ins.keep fun c hc => by rw [hs7]; exact St.get_set_ne _ _ (h.ow c hc).2.1
      have b7 : s7.get n = some (.cells true (cE e)) := by rw [hs7, St.get_set_ne _ _ (Ne.symm hbn)]; exact b4
      obtain ⟨s8, st8, ld8, H8⟩ := fin s7 x Q H7 b7
      rw [hQ, hp] at H8
      refine ⟨s8, x, ?_, H8⟩
      clear fin
      simp only [Nat.add_assoc, Nat.reduceAdd] at e4
      generalize R (d + 9) = r at *
      generalize ((k : Nat) : Int) = K at *
      generalize hitI q.l e.i k = hit at *
      simp [nw1, l1, e2, i2, e3, aExtract, k3, hk, x3, e4, sS, ld8, st8, gtt]
  · rw [if_neg ha]
    refine ⟨s2, x, ?_, h2⟩
    generalize R (d + 9) = r at *
    simp [nw1, l1, e2, ha]
end
end Go.Proofs.YtlhbidbdmdcdeaaGreatDoor

/-
  What entries come to. No conditions but those named in each line.
-/
namespace Go.Proofs.YtlhbidbdmdcdeaaGreatDoor
open Go Go.Abs Go.Abs.F
set_option linter.unusedVariables false
section
variable {s0 s t : St} {b mp : Nat} {q : FoS} {x y a : S} {l : List Inf}

theorem begin_run (d : Nat) (wf : s.wf) : ∃ b mp t, R (d + 2) 46 [] s = some (Z (.ptr b 0), t) ∧ HF s t b fs0 .nils mp := by
  rw [f46_run]
  unfold f46
  obtain ⟨s1, hs1⟩ : ∃ s1, s1 = s.push (.map []) := ⟨_, rfl⟩
  have nw1 : aNew s nMap = some (Z (.map s.size), s1) := by rw [hs1]; rfl
  have g1 : Gr s s1 := by rw [hs1]; exact Gr.push wf _
  have m1 : s1.get s.size = some (.map []) := by rw [hs1]; exact St.get_push_same _ _
  obtain ⟨s2, e2, g2⟩ := default_run d g1.wf
  have m2 := g2.get m1 g1.wf
  have hz := g2.wf.lt m2
  obtain ⟨s3, hs3⟩ : ∃ s3, s3 = s2.push (.cells true (cF .nils s.size fs0)) := ⟨_, rfl⟩
  have ag : asAggT (aFill [.nils, .nilm, .int .i64 0, .int .i64 0, .int .i64 0, .int .i64 0, .int .i64 0, .int .i64 0, .int .i64 0, .int .i64 0] [(1, 1, Z (.map s.size)), (2, 6, AP polD)]) = some (.v (.agg (cF .nils s.size fs0))) := rfl
  have nw3 : aNew s2 (nBox (.v (.agg (cF .nils s.size fs0)))) = some (Z (.ptr s2.size 0), s3) := by rw [hs3]; rfl
  have g3 : Gr s2 s3 := by rw [hs3]; exact Gr.push g2.wf _
  refine ⟨s2.size, s.size, s3, ?_, (g1.trans g2).trans g3, (g1.trans g2).2.1, Nat.le_refl _, by rw [hs3]; exact St.get_push_same _ _, g3.get m2 g2.wf, .inl ⟨rfl, rfl⟩, fun c hc => by cases hc⟩
  generalize R (d + 1) = r at *
  simp [nw1, e2, ag, nw3]

theorem clone_run (d : Nat) (wf : s.wf) (h : InS s x l) (hl : l.length ≤ 8000) : ∃ y t, R (d + 1) 76 [Z x] s = some (Z y, t) ∧ Fr 5 s t y l.length (cells cI l) := by
  rw [f76_run]
  unfold f76
  have hrd := h.rd
  have hlt : ∀ c, own x = some c → c < s.size := fun c hc => h.lt wf hc
  have hcl := cells_len (e := 5) cI_len l
  rcases h with ⟨rfl, rfl⟩ | ⟨c, vs, rfl, hb, ht⟩
  · refine ⟨.nils, s, ?_, Fr.nil 5 wf⟩
    have : eqB .l (Z .nils) (Z .nils) = some (B true) := rfl
    simp [this]
  · have f0 := Fr.lit 5 wf (n := 0) (vs := []) rfl
    obtain ⟨y, t, e, f, _⟩ := f0.append (by_ := 40) (by omega) (hrd.gr hlt f0.gr).src hcl (by omega)
    have nw : aNew s (nSlice 0 (aFill [] [])) = some (Z (.sl s.size 0 0 (.known 0)), s.push (.cells true [])) := rfl
    have q1 : eqB .l (Z (.sl c 0 l.length (.grown 5))) (Z .nils) = some (B false) := rfl
    simp only [Nat.zero_add, List.nil_append] at f
    refine ⟨y, t, ?_, f⟩
    simp [q1, nw, e]

theorem infos_run (d : Nat) (h : HF s0 s b q x mp) (hl : q.l.length ≤ 8000) : ∃ y t, R (d + 2) 48 [Z (.ptr b 0)] s = some (Z y, t) ∧ Fr 5 s t y q.l.length (cells cI q.l) := by
  obtain ⟨y, t, e, f⟩ := clone_run d h.gr.wf h.ins hl
  refine ⟨y, t, ?_, f⟩
  rw [f48_run]
  unfold f48
  have l0 : aLoad1 (Z (.ptr b 0)) s.get = some (Z x) := aLoad1_of h.st rfl
  generalize R (d + 1) = r at *
  simp [l0, e]

theorem rule_load {g : Mem} (h : g b = some (.cells true (cF x mp q))) : aLoadN 6 (Z (.ptr b 2)) g = some (AP q.rule) := by
  simp only [aLoadN, h]
  rw [if_pos (by simp [cF])]
  rfl

/-- What Fold tells. -/
def resFo (r : Int × FoS) (y : S) : T := if r.1 = 0 then .tup [.s y, .agg (cP r.2.rule), .s (.int .i64 r.2.v), .s (.int .i64 0)] else .tup [.s .nils, .agg (cP pol0), .s (.int .i64 0), .s (.int .i64 r.1)]

set_option maxHeartbeats 1000000 in
theorem fold_run (d : Nat) (wf : s.wf) {es : List Ent} (ha : RE s a es) (hoa : ∀ c, own a = some c → c < s.size) (hl : es.length ≤ 8000) : ∃ y t, R (d + 11) 28 [Z a] s = some (resFo (foldGo fs0 es) y, t) ∧ Gr s t ∧
    ((foldGo fs0 es).1 = 0 → Fr 5 s t y (foldGo fs0 es).2.l.length (cells cI (foldGo fs0 es).2.l)) := by
  rw [f28_run]
  unfold f28
  obtain ⟨rp, hrp⟩ : ∃ rp, rp = s.size := ⟨_, rfl⟩
  obtain ⟨s1, hs1⟩ : ∃ s1, s1 = s.push (.cells true (cP pol0)) := ⟨_, rfl⟩
  have nw1 : aNew s (nCells [.int .i64 0, .int .i64 0, .int .i64 0, .int .i64 0, .int .i64 0, .int .i64 0]) = some (Z (.ptr rp 0), s1) := by rw [hs1, hrp]; rfl
  have g1 : Gr s s1 := by rw [hs1]; exact Gr.push wf _
  have r1 : s1.get rp = some (.cells true (cP pol0)) := by rw [hs1, hrp]; exact St.get_push_same _ _
  have z1 : rp < s1.size := g1.wf.lt r1
  obtain ⟨b, mp0, s2, e2, h2⟩ := begin_run (d + 8) g1.wf
  simp only [Nat.add_assoc, Nat.reduceAdd] at e2
  have ll := ha.lens
  obtain ⟨j, τ, lp, hj⟩ := loops_inv (f := f28_l1 (R (d + 10)) 8192)
    (fun q v u => ∃ (k : Nat) (qs : FoS) (x : S) (mp : Nat), q + k = es.length ∧ v = [Z (.ptr rp 0), Z (.ptr b 0), Z a, I .i64 ((es.length : Nat) : Int), I .i64 ((k : Nat) : Int)] ∧ HF s1 u b qs x mp ∧ FOk qs ∧ qs.ever.length ≤ k ∧ foldGo qs (es.drop k) = foldGo fs0 es)
    (fun j u => (∃ (qs : FoS) (x : S) (mp : Nat), j = .exit 0 [Z (.ptr rp 0), Z (.ptr b 0)] ∧ HF s1 u b qs x mp ∧ qs.l.length ≤ 8000 ∧ foldGo fs0 es = (0, qs)) ∨ (j = .ret (resFo (foldGo fs0 es) .nils) ∧ (foldGo fs0 es).1 ≠ 0 ∧ Gr s u)) (by
    rintro q v u ⟨k, qs, x, mp, hk, rfl, H, hok, hev, hgo⟩
    by_cases hkl : k < es.length
    · have hc : es[k]? = some es[k] := List.getElem?_eq_getElem hkl
      obtain ⟨e, he⟩ : ∃ e, e = es[k] := ⟨_, rfl⟩
      rw [← he] at hc
      have hdr : es.drop k = e :: es.drop (k + 1) := by rw [List.drop_eq_getElem_cons hkl, he]
      have hau : RE u a es := (ha.gr hoa g1).gr (fun c hc => Nat.lt_of_lt_of_le (hoa c hc) g1.2.1) H.gr
      obtain ⟨p, ix, ld⟩ := hau.atE (n := ((k : Nat) : Int)) rfl hc
      have c0 : ((k : Nat) : Int) < ((es.length : Nat) : Int) := by omega
      have w1 : IntKind.i64.wrap ((k : Int) + 1) = ((k + 1 : Nat) : Int) := by rw [wrap_in _ (by omega) (by omega)]; omega
      -- the entry's own variable
      obtain ⟨u1, hu1⟩ : ∃ u1, u1 = u.push (.cells true (cE ent0)) := ⟨_, rfl⟩
      have nw3 : aNew u (nCells [.int .i64 0, .int .i64 0, .int .i64 0, .int .i64 0, .int .i64 0, .int .i64 0, .int .u32 0, .str []]) = some (Z (.ptr u.size 0), u1) := by rw [hu1]; rfl
      have b1 : u1.get u.size = some (.cells true (cE ent0)) := by rw [hu1]; exact St.get_push_same _ _
      have gu1 : Gr u u1 := by rw [hu1]; exact Gr.push H.gr.wf _
      obtain ⟨u2, hu2⟩ : ∃ u2, u2 = u1.set u.size (.cells true (cE e)) := ⟨_, rfl⟩
      have st2 : aStore 8 (Z (.ptr u.size 0)) (AE e) u1 = some (tt, u2) := by rw [hu2]; exact store8 b1 rfl
      have gu2 : Gr u u2 := by
        rw [hu2]
        exact ⟨St.wf_set gu1.wf (gu1.wf.lt b1) _, by simpa using gu1.2.1, fun c hc => by rw [St.get_set_ne _ _ (by omega)]; exact gu1.2.2 c hc⟩
      have l2 : aLoadN 8 (Z (.ptr u.size 0)) u2.get = some (AE e) := load8 (by rw [hu2]; exact St.get_set_same _ _ _)
      obtain ⟨u3, y, e3, H3⟩ := next_run' d (H.gr' gu2) hok (by omega) e
      rw [hdr] at hgo
      have hgo' : (if asksP qs e = 0 then foldGo (nextP qs e) (es.drop (k + 1)) else (asksP qs e, qs)) = foldGo fs0 es := hgo
      by_cases hz : asksP qs e = 0
      · left
        rw [if_pos hz] at H3 hgo'
        rw [hz] at e3
        refine ⟨[Z (.ptr rp 0), Z (.ptr b 0), Z a, I .i64 ((es.length : Nat) : Int), I .i64 ((k + 1 : Nat) : Int)], u3, q - 1, ?_, by omega, k + 1, nextP qs e, y, mp, by omega, rfl, H3, next_ok hok hz, by have := next_ever (q := qs) (e := e); omega, hgo'⟩
        unfold f28_l1
        clear hgo hgo' hdr
        generalize R (d + 10) = r at *
        generalize ((k + 1 : Nat) : Int) = K1 at *
        generalize ((k : Nat) : Int) = K at *
        generalize ((es.length : Nat) : Int) = LL at *
        generalize u.size = us at *
        simp [c0, ix, ld, nw3, st2, gtt, l2, e3, w1]
      · right
        rw [if_neg hz] at H3 hgo'
        have r3 : u3.get rp = some (.cells true (cP pol0)) := by rw [H3.gr.2.2 rp z1]; exact r1
        have sr : aStore 6 (Z (.ptr rp 0)) (AP pol0) u3 = some (tt, u3.set rp (.cells true (cP pol0))) := store6 r3 rfl
        obtain ⟨u4, hu4⟩ : ∃ u4, u4 = u3.set rp (.cells true (cP pol0)) := ⟨_, rfl⟩
        rw [← hu4] at sr
        have lr : aLoadN 6 (Z (.ptr rp 0)) u4.get = some (AP pol0) := load6 (by rw [hu4]; exact St.get_set_same _ _ _)
        have g04 : Gr s u4 := by
          rw [hu4]
          have h13 := g1.trans H3.gr
          exact ⟨St.wf_set h13.wf (by have := H3.gr.2.1; omega) _, by simpa using h13.2.1, fun c hc => by rw [St.get_set_ne _ _ (by omega)]; exact h13.2.2 c hc⟩
        refine ⟨.ret (resFo (foldGo fs0 es) .nils), u4, ?_, (fun v hv => by cases hv), .inr ⟨rfl, by rw [← hgo']; exact hz, g04⟩⟩
        have hres : resFo (foldGo fs0 es) .nils = .tup [.s .nils, .agg (cP pol0), .s (.int .i64 0), .s (.int .i64 (asksP qs e))] := by
          rw [← hgo']
          exact if_neg hz
        rw [hres]
        unfold f28_l1
        clear hgo hgo' hdr hres
        generalize R (d + 10) = r at *
        generalize ((k + 1 : Nat) : Int) = K1 at *
        generalize ((k : Nat) : Int) = K at *
        generalize ((es.length : Nat) : Int) = LL at *
        generalize u.size = us at *
        generalize asksP qs e = C at *
        simp [c0, ix, ld, nw3, st2, gtt, l2, e3, hz, agg6, sr, lr, rC, rT, retT, allV]
    · right
      have hke : k = es.length := by omega
      have c0 : ¬ ((k : Nat) : Int) < ((es.length : Nat) : Int) := by omega
      rw [List.drop_eq_nil_of_le (by omega)] at hgo
      refine ⟨.exit 0 [Z (.ptr rp 0), Z (.ptr b 0)], u, ?_, (fun v hv => by cases hv), .inl ⟨qs, x, mp, rfl, H, by have := hok.len; omega, hgo.symm⟩⟩
      unfold f28_l1
      simp [c0]) 8192 es.length [Z (.ptr rp 0), Z (.ptr b 0), Z a, I .i64 ((es.length : Nat) : Int), I .i64 0] s2
    ⟨0, fs0, .nils, mp0, by omega, rfl, h2, fs0_ok, Nat.le_refl _, by rw [List.drop_zero]⟩ (by omega)
  rcases hj with ⟨qs, x, mp, rfl, H, hql, hgo⟩ | ⟨rfl, hne, g⟩
  · obtain ⟨y, t, e4, f4⟩ := infos_run (d + 8) H hql
    simp only [Nat.add_assoc, Nat.reduceAdd] at e4
    have H4 := H.gr' f4.gr
    have a1 := rule_load H.st
    have a2 := rule_load H4.st
    have v1 : aLoad1 (Z (.ptr b 8)) τ.get = some (I .i64 qs.v) := aLoad1_of H.st rfl
    have v2 : aLoad1 (Z (.ptr b 8)) t.get = some (I .i64 qs.v) := aLoad1_of H4.st rfl
    have r4 : t.get rp = some (.cells true (cP pol0)) := by rw [H4.gr.2.2 rp z1]; exact r1
    have sr : aStore 6 (Z (.ptr rp 0)) (AP qs.rule) t = some (tt, t.set rp (.cells true (cP qs.rule))) := store6 r4 rfl
    obtain ⟨u4, hu4⟩ : ∃ u4, u4 = t.set rp (.cells true (cP qs.rule)) := ⟨_, rfl⟩
    rw [← hu4] at sr
    have hbr : b ≠ rp := by have := H.hb; omega
    have v3 : aLoad1 (Z (.ptr b 8)) u4.get = some (I .i64 qs.v) := aLoad1_of (by rw [hu4, St.get_set_ne _ _ hbr]; exact H4.st) rfl
    have lr : aLoadN 6 (Z (.ptr rp 0)) u4.get = some (AP qs.rule) := load6 (by rw [hu4]; exact St.get_set_same _ _ _)
    have h14 := g1.trans H4.gr
    have hr4 := h14.wf.lt r4
    have g04 : Gr s u4 := by
      rw [hu4]
      exact ⟨St.wf_set h14.wf hr4 _, by simpa using h14.2.1, fun c hc => by rw [St.get_set_ne _ _ (by omega)]; exact h14.2.2 c hc⟩
    rw [hgo]
    have hres : resFo ((0 : Int), qs) y = .tup [.s y, .agg (cP qs.rule), .s (.int .i64 qs.v), .s (.int .i64 0)] := rfl
    refine ⟨y, u4, ?_, g04, fun _ => ?_⟩
    · rw [hres]
      clear hgo hres
      generalize R (d + 10) = r at *
      generalize ((es.length : Nat) : Int) = LL at *
      simp [nw1, e2, ll, lp, e4, a1, a2, v1, v2, v3, sr, gtt, lr, rC, rT, retT, allV]
    · have hτ : rp < τ.size := by have := H.gr.2.1; omega
      refine ⟨g04, f4.ow.keep fun c hc => ?_, fun c hc => ?_⟩
      · have := (f4.new c hc).1
        rw [hu4, St.get_set_ne _ _ (by omega)]
      · have := f4.new c hc
        have := H.gr.2.1
        have := g1.2.1
        rw [hu4]
        simp only [St.size_set]
        omega
  · refine ⟨.nils, τ, ?_, g, fun h => (hne h).elim⟩
    generalize resFo (foldGo fs0 es) .nils = RF at *
    generalize R (d + 10) = r at *
    generalize ((es.length : Nat) : Int) = LL at *
    simp [nw1, e2, ll, lp]
end
end Go.Proofs.YtlhbidbdmdcdeaaGreatDoor

/-
  The rows of the laws: what Rows computes, in any store. No conditions but those named in each line.
-/
namespace Go.Proofs.YtlhbidbdmdcdeaaGreatDoor
open Go Go.Abs Go.Abs.F
set_option linter.unusedVariables false

structure RowSt where
  out : List Ent
  there : List Nat
  view : Nat
  id : Nat
  at_ : Nat

def sealB (n : Nat) : Bs := [115, 101, 97, 108, 32] ++ (if n = 0 then [49] else if n = 1 then [57] else [51, 51])

def rowStep (σ : RowSt) (k : Nat) : RowSt :=
  if k % 8 = 7 then { σ with out := σ.out ++ [{ ent0 with k := 3, v := (σ.view + 1 : Nat) }], view := σ.view + 1 }
  else if k % 8 = 6 then { σ with out := σ.out ++ [{ ent0 with k := 4, v := (σ.view : Nat), x := sealB (k / 8 % 3) }] }
  else if 3 < k % 8 ∧ 0 < σ.there.length then
    { σ with out := σ.out ++ [{ ent0 with k := 2, v := (σ.view : Nat), i := (σ.there.getD (k / 8 % σ.there.length) 0 : Nat) }],
             there := σ.there.take (k / 8 % σ.there.length) ++ σ.there.drop (k / 8 % σ.there.length + 1) }
  else { out := σ.out ++ [{ k := 1, v := (σ.view : Nat), i := (σ.id + 1 : Nat), t := (k / 8 % 4 : Nat), f := (σ.at_ : Nat), o := (σ.at_ + 1 + k / 8 % 30 : Nat), u := (k % 4294967296 : Nat), x := [] }],
         there := σ.there ++ [σ.id + 1], view := σ.view, id := σ.id + 1, at_ := σ.at_ + 1 + k / 8 % 30 }

def rowsG (ks : List Nat) : RowSt := ks.foldl rowStep ⟨[], [], 0, 0, 0⟩
def rowK (v : Int) : Nat := (IntKind.u64.wrap v).toNat
def rowsE (vs : List Int) : List Ent := (rowsG ((vs.take 40).map rowK)).out

abbrev I64 (vs : List Int) : List S := vs.map (S.int .i64)
abbrev N64 (vs : List Nat) : List S := vs.map fun n : Nat => S.int .i64 (n : Int)

section
variable {s t : St} {x y : S} {bs cs : Bs} {i : Nat} {l m : List Ent} {e n : Nat} {vs : List S}

theorem aBounds_max {len cap k : Nat} (h : k ≤ cap) : aBounds len cap none (some (I .i64 k)) (some (I .i64 k)) = some (0, k, k) := by
  have e1 : ∀ c, k ≤ c → aBnd (I .i64 k) c = some k := fun c h => by
    have h0 : (0 : Int) ≤ (k : Int) := by omega
    have h1 : (k : Int) ≤ (c : Int) := by omega
    simp [aBnd, h]
  delta aBounds
  dsimp only
  rw [e1 _ h]
  dsimp only
  rw [e1 _ (Nat.le_refl _)]

theorem Ow_cut (h : Ow e s x n vs) (h0 : 0 < n) {j : Nat} (hj : j ≤ n) : ∃ y, aPieceSl e (Z x) none (some (I .i64 j)) (some (I .i64 j)) = some (Z y) ∧ Ow e s y j (vs.take (j * e)) ∧ own y = own x := by
  have hl := h.len
  have hm : j * e ≤ n * e := Nat.mul_le_mul_right _ hj
  rcases h.ow with ⟨rfl, h1⟩ | ⟨c, rows, rfl, h1, _⟩ | ⟨c, rows, cap, rfl, hc, h1, h2, h3⟩
  · omega
  · omega
  · have hy : Ow e s (.sl c 0 j (.known j)) j (vs.take (j * e)) := by
      refine ⟨by rw [List.length_take]; omega, .inr (.inr ⟨c, rows, _, rfl, .inr rfl, h1, by omega, ?_⟩)⟩
      rw [← h3, List.take_take, Nat.min_eq_left hm]
    refine ⟨.sl c 0 j (.known j), ?_, hy, rfl⟩
    rcases hc with rfl | rfl
    · simp only [aPieceSl, if_true, aBounds_max hj]
      simp
    · simp only [aPieceSl, aBounds_max hj]
      simp

theorem Fr_other {s0 : St} (h : Fr e s0 s x n vs) (g : Gr s0 t) (hz : s.size ≤ t.size) (hk : ∀ c, own x = some c → t.get c = s.get c) : Fr e s0 t x n vs :=
  ⟨g, h.ow.keep hk, fun c hc => ⟨(h.new c hc).1, Nat.lt_of_lt_of_le (h.new c hc).2 hz⟩⟩

theorem FE.lit' {s0 : St} {e : Ent} (h : FE s0 s x l) (hl : l.length ≤ 1000000) :
    ∃ x' t s', aNew s (nSlice 1 (aFill [.int .i64 0, .int .i64 0, .int .i64 0, .int .i64 0, .int .i64 0, .int .i64 0, .int .u32 0, .str []] [(0, 8, AE e)])) = some (Z (.sl s.size 0 1 (.known 1)), s') ∧ aAppend 8 72 (Z x) (Z (.sl s.size 0 1 (.known 1))) s' = some (Z x', t) ∧ FE s0 t x' (l ++ [e]) ∧ s.size ≤ t.size ∧
      (∀ b, b < s.size → own x ≠ some b → t.get b = s.get b) ∧ (own x' = none ∨ own x' = own x ∨ ∃ c, own x' = some c ∧ s.size ≤ c) := by
  have L := Fr.lit 8 h.gr.1 (n := 1) (vs := cells cE [e]) (by simp [cE])
  obtain ⟨x', t, e1, f, hz, k, o⟩ := (h.gr' L.gr).append' (by_ := 72) (by omega) L.rd.src (by simp [cE]) (by omega)
  refine ⟨x', t, _, rfl, e1, ?_, Nat.le_trans L.gr.2.1 hz, fun b hb ho => ?_, ?_⟩
  · unfold FE
    rw [cells_append, List.length_append]
    exact f
  · rw [k b (Nat.lt_of_lt_of_le hb L.gr.2.1) ho, L.gr.2.2 b hb]
  · rcases o with h | h | ⟨c, h, h'⟩
    · exact .inl h
    · exact .inr (.inl h)
    · exact .inr (.inr ⟨c, h, Nat.le_trans L.gr.2.1 h'⟩)

/-- Two slices that grow side by side. -/
structure Both (s0 s : St) (o y : S) (l : List Ent) (ns : List Nat) : Prop where
  out : FE s0 s o l
  there : Fr 1 s0 s y ns.length (N64 ns)
  ne : ∀ c, own o = some c → own y ≠ some c

theorem Both.lit {s0 : St} {o : S} {ns : List Nat} {e : Ent} (h : Both s0 s o y l ns) (hl : l.length ≤ 1000000) :
    ∃ x' t s', aNew s (nSlice 1 (aFill [.int .i64 0, .int .i64 0, .int .i64 0, .int .i64 0, .int .i64 0, .int .i64 0, .int .u32 0, .str []] [(0, 8, AE e)])) = some (Z (.sl s.size 0 1 (.known 1)), s') ∧ aAppend 8 72 (Z o) (Z (.sl s.size 0 1 (.known 1))) s' = some (Z x', t) ∧ Both s0 t x' y (l ++ [e]) ns := by
  obtain ⟨x', t, s', e1, e2, f, hz, hk, ho⟩ := FE.lit' (e := e) h.out hl
  refine ⟨x', t, s', e1, e2, f, Fr_other h.there f.gr hz fun c hc => hk c (h.there.new c hc).2 fun hh => h.ne c hh hc, fun c hc hy => ?_⟩
  rcases ho with h1 | h1 | ⟨c', h1, h2⟩
  · rw [h1] at hc; cases hc
  · rw [h1] at hc; exact h.ne c hc hy
  · rw [h1] at hc
    cases hc
    have := (h.there.new c hy).2
    omega

theorem Both.app {s0 : St} {o z : S} {ns ms ks : List Nat} (h : Both s0 s o y l ns) (hy : Fr 1 s0 s x ks.length (N64 ks)) (hox : own x = own y) (hz : aSrc 1 (Z z) s.get = some (ms.length, N64 ms)) (hl : (ks.length + ms.length) * 8 ≤ 140737488355328) :
    ∃ y' t, aAppend 1 8 (Z x) (Z z) s = some (Z y', t) ∧ Both s0 t o y' l (ks ++ ms) := by
  obtain ⟨y', t, e1, f, hzz, hk, ho⟩ := hy.append' (by_ := 8) (by omega) hz (by simp) hl
  refine ⟨y', t, e1, Fr_other h.out f.gr hzz fun c hc => hk c (h.out.new c hc).2 fun hh => h.ne c hc (by rw [← hox]; exact hh), ?_, fun c hc hy' => ?_⟩
  · rw [List.length_append]
    have : N64 (ks ++ ms) = N64 ks ++ N64 ms := by simp [N64]
    rw [this]
    exact f
  · rcases ho with h1 | h1 | ⟨c', h1, h2⟩
    · rw [h1] at hy'; cases hy'
    · rw [h1, hox] at hy'; exact h.ne c hc hy'
    · rw [h1] at hy'
      cases hy'
      have := (h.out.new c hc).2
      omega

theorem rem_nat (k : IntKind) (a b : Nat) (h : 0 < b) : aBin .rem (I k a) (I k b) = some (I k ((a % b : Nat))) := by
  rw [rem_int _ _ _ (by omega)]; rfl
theorem quo_nat (k : IntKind) (a b : Nat) (h : 0 < b) (hw : k.wrap ((a / b : Nat) : Int) = ((a / b : Nat) : Int)) : aBin .quo (I k a) (I k b) = some (I k ((a / b : Nat))) := by
  rw [quo_int _ _ _ (by omega)]
  have : Int.tdiv (a : Int) (b : Int) = ((a / b : Nat) : Int) := rfl
  rw [this, hw]


theorem rowK_eq (v : Int) : IntKind.u64.wrap v = ((rowK v : Nat) : Int) := (Int.toNat_of_nonneg (wrap_u64 v)).symm
theorem rowK_lt (v : Int) : rowK v < 2 ^ 64 := by
  have : IntKind.u64.wrap v < 2 ^ 64 := by
    unfold IntKind.wrap
    simp [IntKind.signed, IntKind.bits]
    omega
  rw [rowK_eq] at this
  omega

/-- What the rows' counters are at most. -/
structure RowOk (σ : RowSt) (n : Nat) : Prop where
  out : σ.out.length = n
  there : σ.there.length ≤ n
  view : σ.view ≤ n
  id : σ.id ≤ n
  at_ : σ.at_ ≤ 30 * n

theorem RowOk.step {σ : RowSt} {n : Nat} (h : RowOk σ n) (k : Nat) : RowOk (rowStep σ k) (n + 1) := by
  obtain ⟨h1, h2, h3, h4, h5⟩ := h
  unfold rowStep
  split
  · exact ⟨by simp [h1], by show σ.there.length ≤ _; omega, by show σ.view + 1 ≤ _; omega, by show σ.id ≤ _; omega, by show σ.at_ ≤ _; omega⟩
  · split
    · exact ⟨by simp [h1], by show σ.there.length ≤ _; omega, by show σ.view ≤ _; omega, by show σ.id ≤ _; omega, by show σ.at_ ≤ _; omega⟩
    · split
      · exact ⟨by simp [h1], by simp; omega, by show σ.view ≤ _; omega, by show σ.id ≤ _; omega, by show σ.at_ ≤ _; omega⟩
      · exact ⟨by simp [h1], by simp; omega, by show σ.view ≤ _; omega, by show σ.id + 1 ≤ _; omega, by show σ.at_ + 1 + k / 8 % 30 ≤ _; have := Nat.mod_lt (k / 8) (show 0 < 30 by decide); omega⟩

abbrev rowV (x o y : S) (σ : RowSt) (n : Nat) : List T := [Z x, Z o, Z y, I .i64 (σ.view : Nat), I .i64 (σ.id : Nat), I .i64 (σ.at_ : Nat), I .i64 (n : Nat)]

theorem rows_step (d : Nat) {s0 : St} {o : S} {σ : RowSt} {n : Nat} {is : List Int} (hx : Rd 1 s x is.length (I64 is)) (h : Both s0 s o y σ.out σ.there) (ok : RowOk σ n) (hn : n < is.length) (hn40 : n < 40) :
    ∃ o' y' t, f27_l1 (R d) 8192 (rowV x o y σ n) s = some (.normal (rowV x o' y' (rowStep σ (rowK is[n])) (n + 1)), t) ∧ Both s0 t o' y' (rowStep σ (rowK is[n])).out (rowStep σ (rowK is[n])).there := by
  have hll := hx.lens
  obtain ⟨p, ix, ld⟩ := hx.at1 (j := n) (i := (n : Int)) (v := .int .i64 is[n]) rfl (by simp [I64, hn])
  have hK := rowK_eq is[n]
  have hKl := rowK_lt is[n]
  generalize rowK is[n] = K at *
  generalize is[n] = v at *
  obtain ⟨ok1, ok2, ok3, ok4, ok5⟩ := ok
  obtain ⟨out, there, view, id, at_⟩ := σ
  simp only at ok1 ok2 ok3 ok4 ok5 h
  have c0 : (n : Int) < (is.length : Int) := by omega
  have c1 : (n : Int) < 40 := by omega
  have w1 : IntKind.i64.wrap ((n : Int) + 1) = ((n + 1 : Nat) : Int) := by rw [wrap_in _ (by omega) (by omega)]; omega
  have r8 : aBin .rem (I .u64 (K : Nat)) (I .u64 8) = some (I .u64 ((K % 8 : Nat))) := rem_nat .u64 K 8 (by decide)
  have q8 : aBin .quo (I .u64 (K : Nat)) (I .u64 8) = some (I .u64 ((K / 8 : Nat))) := quo_nat .u64 K 8 (by decide) (wrap64 _ (by omega))
  have e7 : decide (((K % 8 : Nat) : Int) = 7) = decide (K % 8 = 7) := decide_eq_decide.2 (by omega)
  have e6 : decide (((K % 8 : Nat) : Int) = 6) = decide (K % 8 = 6) := decide_eq_decide.2 (by omega)
  have e3 : decide (3 < ((K % 8 : Nat) : Int)) = decide (3 < K % 8) := decide_eq_decide.2 (by omega)
  generalize ((K % 8 : Nat) : Int) = C8 at *
  by_cases k7 : K % 8 = 7
  · have hs : rowStep ⟨out, there, view, id, at_⟩ K = ⟨out ++ [{ ent0 with k := 3, v := (view + 1 : Nat) }], there, view + 1, id, at_⟩ := by unfold rowStep; rw [if_pos k7]
    rw [hs]
    have w2 : IntKind.i64.wrap ((view : Int) + 1) = ((view + 1 : Nat) : Int) := by rw [wrap_in _ (by omega) (by omega)]; omega
    have ag : asAggT (aFill [.int .i64 0, .int .i64 0, .int .i64 0, .int .i64 0, .int .i64 0, .int .i64 0, .int .u32 0, .str []] [(0, 1, (I .i64 3)), (1, 1, I .i64 ((view + 1 : Nat) : Int))]) = some (AE { ent0 with k := 3, v := (view + 1 : Nat) }) := rfl
    obtain ⟨o', t, s', nw, ap, b⟩ := Both.lit (e := { ent0 with k := 3, v := (view + 1 : Nat) }) h (by omega)
    refine ⟨o', y, t, ?_, b⟩
    rw [decide_eq_true k7] at e7
    unfold f27_l1 rowV
    generalize ((view + 1 : Nat) : Int) = V1 at *
    generalize ((n + 1 : Nat) : Int) = N1 at *
    generalize ((is.length : Nat) : Int) = L at *
    generalize ((K : Nat) : Int) = KK at *
    simp [hll, c0, c1, ix, ld, hK, r8, e7, w2, ag, nw, ap, w1]
  · rw [decide_eq_false k7] at e7
    by_cases k6 : K % 8 = 6
    · have hs : rowStep ⟨out, there, view, id, at_⟩ K = ⟨out ++ [{ ent0 with k := 4, v := (view : Nat), x := sealB (K / 8 % 3) }], there, view, id, at_⟩ := by unfold rowStep; rw [if_neg k7, if_pos k6]
      rw [hs]
      rw [decide_eq_true k6] at e6
      obtain ⟨s3, hs3⟩ : ∃ s3, s3 = s.push (.cells true [.str [49], .str [57], .str [51, 51]]) := ⟨_, rfl⟩
      have nw0 : aNew s (nSlice 3 (aFill [.str [], .str [], .str []] [(0, 1, (Z (.str [49]))), (1, 1, (Z (.str [57]))), (2, 1, (Z (.str [51, 51])))])) = some (Z (.sl s.size 0 3 (.known 3)), s3) := by rw [hs3]; rfl
      have g3 : Gr s s3 := by rw [hs3]; exact Gr.push h.out.gr.1 _
      have b3 : s3.get s.size = some (.cells true [.str [49], .str [57], .str [51, 51]]) := by rw [hs3]; exact St.get_push_same _ _
      have hb3 : Both s0 s3 o y out there := ⟨h.out.gr' g3, h.there.gr' g3, h.ne⟩
      have r3 : aBin .rem (I .u64 ((K / 8 : Nat))) (I .u64 3) = some (I .u64 ((K / 8 % 3 : Nat))) := rem_nat .u64 (K / 8) 3 (by decide)
      have hj : K / 8 % 3 < 3 := Nat.mod_lt _ (by decide)
      obtain ⟨w, z, ix2, ld2, ad⟩ : ∃ w z, aIndexSl 1 (Z (.sl s.size 0 3 (.known 3))) (I .u64 ((K / 8 % 3 : Nat))) = some w ∧ aLoad1 w s3.get = some (Z (.str z)) ∧ aBin .add (Z (.str [115, 101, 97, 108, 32])) (Z (.str z)) = some (Z (.str (sealB (K / 8 % 3)))) := by
        generalize K / 8 % 3 = J at hj
        rcases (by omega : J = 0 ∨ J = 1 ∨ J = 2) with rfl | rfl | rfl
        · exact ⟨_, _, rfl, aLoad1_of b3 rfl, str_add _ _ (by decide)⟩
        · exact ⟨_, _, rfl, aLoad1_of b3 rfl, str_add _ _ (by decide)⟩
        · exact ⟨_, _, rfl, aLoad1_of b3 rfl, str_add _ _ (by decide)⟩
      have ag : asAggT (aFill [.int .i64 0, .int .i64 0, .int .i64 0, .int .i64 0, .int .i64 0, .int .i64 0, .int .u32 0, .str []] [(0, 1, (I .i64 4)), (1, 1, I .i64 ((view : Nat) : Int)), (7, 1, Z (.str (sealB (K / 8 % 3))))]) = some (AE { ent0 with k := 4, v := (view : Nat), x := sealB (K / 8 % 3) }) := rfl
      obtain ⟨o', t, s', nw, ap, b⟩ := Both.lit (e := { ent0 with k := 4, v := (view : Nat), x := sealB (K / 8 % 3) }) hb3 (by omega)
      refine ⟨o', y, t, ?_, b⟩
      unfold f27_l1 rowV
      generalize sealB (K / 8 % 3) = SB at *
      generalize ((K / 8 % 3 : Nat) : Int) = K83 at *
      generalize ((K / 8 : Nat) : Int) = K8 at *
      generalize ((K : Nat) : Int) = KK at *
      generalize ((n + 1 : Nat) : Int) = N1 at *
      generalize ((is.length : Nat) : Int) = L at *
      simp [hll, c0, c1, ix, ld, hK, r8, e7, e6, nw0, q8, r3, ix2, ld2, ad, ag, nw, ap, w1]
    · rw [decide_eq_false k6] at e6
      have tl := h.there.rd.lens
      by_cases k3 : 3 < K % 8 ∧ 0 < there.length
      · obtain ⟨k3, kt⟩ := k3
        rw [decide_eq_true k3] at e3
        have hs : rowStep ⟨out, there, view, id, at_⟩ K = ⟨out ++ [{ ent0 with k := 2, v := (view : Nat), i := (there.getD (K / 8 % there.length) 0 : Nat) }], there.take (K / 8 % there.length) ++ there.drop (K / 8 % there.length + 1), view, id, at_⟩ := by
          unfold rowStep; rw [if_neg k7, if_neg k6, if_pos ⟨k3, kt⟩]
        rw [hs]
        have hj : K / 8 % there.length < there.length := Nat.mod_lt _ kt
        have w2 : IntKind.u64.wrap ((there.length : Nat) : Int) = ((there.length : Nat) : Int) := wrap64 _ (by omega)
        have r3 : aBin .rem (I .u64 ((K / 8 : Nat))) (I .u64 (there.length : Nat)) = some (I .u64 ((K / 8 % there.length : Nat))) := rem_nat .u64 (K / 8) there.length kt
        generalize K / 8 % there.length = J at *
        have w3 : IntKind.i64.wrap ((J : Nat) : Int) = ((J : Nat) : Int) := wrapi _ (by omega)
        have w4 : IntKind.i64.wrap ((J : Int) + 1) = ((J + 1 : Nat) : Int) := by rw [wrap_in _ (by omega) (by omega)]; omega
        have g0 : decide (0 < ((there.length : Nat) : Int)) = true := decide_eq_true (by omega)
        obtain ⟨p2, ix2, ld2⟩ := h.there.rd.at1 (j := J) (i := (J : Int)) (v := .int .i64 ((there.getD J 0 : Nat) : Int)) rfl (by simp [N64, hj])
        have ag : asAggT (aFill [.int .i64 0, .int .i64 0, .int .i64 0, .int .i64 0, .int .i64 0, .int .i64 0, .int .u32 0, .str []] [(0, 1, (I .i64 2)), (1, 1, I .i64 ((view : Nat) : Int)), (2, 1, I .i64 ((there.getD J 0 : Nat) : Int))]) = some (AE { ent0 with k := 2, v := (view : Nat), i := (there.getD J 0 : Nat) }) := rfl
        obtain ⟨o', t, s', nw, ap, b⟩ := Both.lit (e := { ent0 with k := 2, v := (view : Nat), i := (there.getD J 0 : Nat) }) h (by omega)
        obtain ⟨y1, p1, ow1, oy1⟩ := Ow_cut b.there.ow kt (j := J) (by omega)
        obtain ⟨y2, p2', rd2, _⟩ := b.there.rd.onfrom (lo := J + 1) (by omega)
        have ht : N64 (there.take J) = (N64 there).take (J * 1) := by simp [N64, List.map_take]
        have hd : N64 (there.drop (J + 1)) = (N64 there).drop ((J + 1) * 1) := by simp [N64, List.map_drop]
        have lt : (there.take J).length = J := by rw [List.length_take]; omega
        have ld' : (there.drop (J + 1)).length = there.length - (J + 1) := by rw [List.length_drop]
        obtain ⟨y', t2, ap2, b2⟩ := b.app (x := y1) (z := y2) (ks := there.take J) (ms := there.drop (J + 1)) ⟨b.there.gr, by rw [lt, ht]; exact ow1, fun c hc => b.there.new c (by rw [← oy1]; exact hc)⟩ oy1 (by rw [ld', hd]; exact rd2.src) (by rw [lt, ld']; omega)
        refine ⟨o', y', t2, ?_, b2⟩
        unfold f27_l1 rowV
        generalize ((there.getD J 0 : Nat) : Int) = TJ at *
        generalize ((J + 1 : Nat) : Int) = J1 at *
        generalize ((J : Nat) : Int) = JJ at *
        generalize ((there.length : Nat) : Int) = TL at *
        generalize ((K / 8 : Nat) : Int) = K8 at *
        generalize ((K : Nat) : Int) = KK at *
        generalize ((n + 1 : Nat) : Int) = N1 at *
        generalize ((is.length : Nat) : Int) = L at *
        simp [hll, c0, c1, ix, ld, hK, r8, e7, e6, e3, tl, g0, q8, w2, r3, w3, ix2, ld2, ag, nw, ap, p1, w4, p2', ap2, w1]
      · have hs : rowStep ⟨out, there, view, id, at_⟩ K = ⟨out ++ [{ k := 1, v := (view : Nat), i := (id + 1 : Nat), t := (K / 8 % 4 : Nat), f := (at_ : Nat), o := (at_ + 1 + K / 8 % 30 : Nat), u := (K % 4294967296 : Nat), x := [] }], there ++ [id + 1], view, id + 1, at_ + 1 + K / 8 % 30⟩ := by
          unfold rowStep; rw [if_neg k7, if_neg k6, if_neg k3]
        rw [hs]
        have w2 : IntKind.i64.wrap ((id : Int) + 1) = ((id + 1 : Nat) : Int) := by rw [wrap_in _ (by omega) (by omega)]; omega
        have w3 : IntKind.i64.wrap ((at_ : Int) + 1) = ((at_ + 1 : Nat) : Int) := by rw [wrap_in _ (by omega) (by omega)]; omega
        have r3 : aBin .rem (I .u64 ((K / 8 : Nat))) (I .u64 30) = some (I .u64 ((K / 8 % 30 : Nat))) := rem_nat .u64 (K / 8) 30 (by decide)
        have r4 : aBin .rem (I .u64 ((K / 8 : Nat))) (I .u64 4) = some (I .u64 ((K / 8 % 4 : Nat))) := rem_nat .u64 (K / 8) 4 (by decide)
        have l3 : K / 8 % 30 < 30 := Nat.mod_lt _ (by decide)
        have l4 : K / 8 % 4 < 4 := Nat.mod_lt _ (by decide)
        have w4 : IntKind.i64.wrap ((K / 8 % 30 : Nat) : Int) = ((K / 8 % 30 : Nat) : Int) := wrapi _ (by omega)
        have w5 : IntKind.i64.wrap ((K / 8 % 4 : Nat) : Int) = ((K / 8 % 4 : Nat) : Int) := wrapi _ (by omega)
        have w6 : IntKind.i64.wrap (((at_ + 1 : Nat) : Int) + ((K / 8 % 30 : Nat) : Int)) = ((at_ + 1 + K / 8 % 30 : Nat) : Int) := by rw [wrap_in _ (by omega) (by omega)]; omega
        have w7 : IntKind.u32.wrap ((K : Nat) : Int) = ((K % 4294967296 : Nat) : Int) := wrap32 K
        have ag : asAggT (aFill [.int .i64 0, .int .i64 0, .int .i64 0, .int .i64 0, .int .i64 0, .int .i64 0, .int .u32 0, .str []] [(0, 1, (I .i64 1)), (1, 1, I .i64 ((view : Nat) : Int)), (2, 1, I .i64 ((id + 1 : Nat) : Int)), (3, 1, I .i64 ((K / 8 % 4 : Nat) : Int)), (4, 1, I .i64 ((at_ : Nat) : Int)), (5, 1, I .i64 ((at_ + 1 + K / 8 % 30 : Nat) : Int)), (6, 1, I .u32 ((K % 4294967296 : Nat) : Int))]) =
          some (AE { k := 1, v := (view : Nat), i := (id + 1 : Nat), t := (K / 8 % 4 : Nat), f := (at_ : Nat), o := (at_ + 1 + K / 8 % 30 : Nat), u := (K % 4294967296 : Nat), x := [] }) := rfl
        obtain ⟨o', t, s', nw, ap, b⟩ := Both.lit (e := { k := 1, v := (view : Nat), i := (id + 1 : Nat), t := (K / 8 % 4 : Nat), f := (at_ : Nat), o := (at_ + 1 + K / 8 % 30 : Nat), u := (K % 4294967296 : Nat), x := [] }) h (by omega)
        have L := Fr.lit 1 b.out.gr.1 (n := 1) (vs := N64 [id + 1]) rfl
        have nw2 : aNew t (nSlice 1 (aFill [.int .i64 0] [(0, 1, I .i64 ((id + 1 : Nat) : Int))])) = some (Z (.sl t.size 0 1 (.known 1)), t.push (.cells true (N64 [id + 1]))) := rfl
        obtain ⟨t1, ht1⟩ : ∃ t1, t1 = t.push (.cells true (N64 [id + 1])) := ⟨_, rfl⟩
        rw [← ht1] at L nw2
        have b1 : Both s0 t1 o' y (out ++ [{ k := 1, v := (view : Nat), i := (id + 1 : Nat), t := (K / 8 % 4 : Nat), f := (at_ : Nat), o := (at_ + 1 + K / 8 % 30 : Nat), u := (K % 4294967296 : Nat), x := [] }]) there := ⟨b.out.gr' L.gr, b.there.gr' L.gr, b.ne⟩
        obtain ⟨y', t2, ap2, b2⟩ := b1.app (x := y) (z := .sl t.size 0 1 (.known 1)) (ks := there) (ms := [id + 1]) b1.there rfl L.rd.src (by simp; omega)
        refine ⟨o', y', t2, ?_, b2⟩
        have g3 : (decide (3 < C8) = false) ∨ (decide (3 < C8) = true ∧ decide (0 < ((there.length : Nat) : Int)) = false) := by
          by_cases hk : 3 < K % 8
          · exact .inr ⟨by rw [e3]; exact decide_eq_true hk, decide_eq_false (by omega)⟩
          · exact .inl (by rw [e3]; exact decide_eq_false hk)
        unfold f27_l1 rowV
        generalize ((id + 1 : Nat) : Int) = ID1 at *
        generalize ((at_ + 1 + K / 8 % 30 : Nat) : Int) = AT2 at *
        generalize ((at_ + 1 : Nat) : Int) = AT1 at *
        generalize ((K / 8 % 30 : Nat) : Int) = K30 at *
        generalize ((K / 8 % 4 : Nat) : Int) = K4 at *
        generalize ((K % 4294967296 : Nat) : Int) = K32 at *
        generalize ((there.length : Nat) : Int) = TL at *
        generalize ((K / 8 : Nat) : Int) = K8 at *
        generalize ((K : Nat) : Int) = KK at *
        generalize ((n + 1 : Nat) : Int) = N1 at *
        generalize ((is.length : Nat) : Int) = L' at *
        clear e3
        rcases g3 with g3 | ⟨g3, g4⟩
        · simp [hll, c0, c1, ix, ld, hK, r8, e7, e6, g3, q8, r3, r4, w2, w3, w4, w5, w6, w7, ag, nw, ap, nw2, ap2, w1]
        · simp [hll, c0, c1, ix, ld, hK, r8, e7, e6, g3, tl, g4, q8, r3, r4, w2, w3, w4, w5, w6, w7, ag, nw, ap, nw2, ap2, w1]

theorem rowsG_succ (ks : List Nat) (k : Nat) : rowsG (ks ++ [k]) = rowStep (rowsG ks) k := by simp [rowsG]

theorem rows_run (d : Nat) (wf : s.wf) {is : List Int} (hx : Rd 1 s x is.length (I64 is)) (hox : ∀ c, own x = some c → c < s.size) : ∃ o t, R (d + 1) 27 [Z x] s = some (Z o, t) ∧ FE s t o (rowsE is) := by
  rw [f27_run]
  unfold f27
  obtain ⟨j, τ, lp, o, hj, f⟩ := loops_inv (f := f27_l1 (R d) 8192) (fun q v u => ∃ (n : Nat) (o y : S), q + n = min is.length 40 ∧ v = rowV x o y (rowsG ((is.take n).map rowK)) n ∧ Both s u o y (rowsG ((is.take n).map rowK)).out (rowsG ((is.take n).map rowK)).there ∧ RowOk (rowsG ((is.take n).map rowK)) n)
    (fun j u => ∃ o, j = .exit 0 [Z o] ∧ FE s u o (rowsE is)) (by
    rintro q v u ⟨n, o, y, hq, rfl, b, ok⟩
    by_cases hn : n < is.length ∧ n < 40
    · left
      have htk : (is.take (n + 1)).map rowK = (is.take n).map rowK ++ [rowK (is[n]'hn.1)] := by
        rw [List.take_add_one, List.getElem?_eq_getElem hn.1, Option.toList_some, List.map_append]
        rfl
      have hr : Rd 1 u x is.length (I64 is) := hx.gr hox b.out.gr
      obtain ⟨o', y', t, e, b'⟩ := rows_step d hr b ok hn.1 hn.2
      have ok' := ok.step (rowK (is[n]'hn.1))
      rw [← rowsG_succ, ← htk] at e b' ok'
      exact ⟨_, t, q - 1, e, by omega, n + 1, o', y', by omega, rfl, b', ok'⟩
    · right
      have hll := hx.lens
      have htk : is.take n = is.take 40 := by
        rcases Nat.lt_or_ge n is.length with h1 | h1
        · obtain rfl : n = 40 := by omega
          rfl
        · rw [List.take_of_length_le h1, List.take_of_length_le (by omega)]
      refine ⟨.exit 0 [Z o], u, ?_, (fun v hv => by cases hv), o, rfl, by unfold rowsE; rw [← htk]; exact b.out⟩
      unfold f27_l1 rowV
      by_cases h1 : n < is.length
      · have c0 : decide ((n : Int) < (is.length : Int)) = true := decide_eq_true (by omega)
        have c1 : decide ((n : Int) < 40) = false := decide_eq_false (by omega)
        generalize ((is.length : Nat) : Int) = L at *
        generalize ((n : Nat) : Int) = NN at *
        simp [hll, c0, c1]
      · have c0 : decide ((n : Int) < (is.length : Int)) = false := decide_eq_false (by omega)
        generalize ((is.length : Nat) : Int) = L at *
        generalize ((n : Nat) : Int) = NN at *
        simp [hll, c0, gtt]) 8192 (min is.length 40) [Z x, Z .nils, Z .nils, I .i64 0, I .i64 0, I .i64 0, I .i64 0] s
    ⟨0, .nils, .nils, by omega, rfl, ⟨Fr.nil 8 wf, Fr.nil 1 wf, fun c hc => by cases hc⟩, ⟨rfl, Nat.le_refl _, Nat.le_refl _, Nat.le_refl _, Nat.le_refl _⟩⟩ (by omega)
  subst hj
  exact ⟨o, τ, by simp [lp], f⟩
end

/-! ### Rows may be -/

theorem seal_ok : ∀ n, n < 3 → (parseP (sealB n)).2.1 = 0 := by decide +kernel

structure RowMay (σ : RowSt) (n : Nat) : Prop where
  ok : RowOk σ n
  may : σ.out.all mayE = true
  wf : ∀ e ∈ σ.out, EWf e
  there : ∀ k ∈ σ.there, 1 ≤ k ∧ k ≤ n

theorem may3 (v : Nat) (h : 0 < v) (k : v ≤ 1000) : mayE { ent0 with k := 3, v := (v : Nat) } = true := by
  unfold mayE
  rw [if_neg (by simp only; omega)]
  simp [ent0]
  omega
theorem may4 (v n : Nat) (k : v ≤ 1000) (hn : n < 3) : mayE { ent0 with k := 4, v := (v : Nat), x := sealB n } = true := by
  unfold mayE
  rw [if_neg (by simp only; omega)]
  have h1 := seal_ok n hn
  have h2 : (sealB n).length ≤ 300 := by unfold sealB; split <;> (try split) <;> simp
  simp [ent0, h1, h2]
theorem may2 (v i : Nat) (k : v ≤ 1000) (h1 : 1 ≤ i) (h2 : i ≤ 1000) : mayE { ent0 with k := 2, v := (v : Nat), i := (i : Nat) } = true := by
  unfold mayE
  rw [if_neg (by simp only; omega)]
  simp [ent0, idOk]
  omega
theorem may1 (v i t f o u : Nat) (k : v ≤ 1000) (h1 : 1 ≤ i) (h2 : i ≤ 1000) (h3 : t < 4) (h4 : f < o) (h5 : o ≤ 100000) : mayE { k := 1, v := (v : Nat), i := (i : Nat), t := (t : Nat), f := (f : Nat), o := (o : Nat), u := (u : Nat), x := [] } = true := by
  unfold mayE
  rw [if_neg (by simp only; omega)]
  simp [idOk]
  omega

theorem RowMay.step {σ : RowSt} {n : Nat} (h : RowMay σ n) (hn : n < 40) (k : Nat) : RowMay (rowStep σ k) (n + 1) := by
  have ok := h.ok.step k
  obtain ⟨⟨h1, h2, h3, h4, h5⟩, may, wf, there⟩ := h
  have all : ∀ {l : List Ent} {e : Ent}, l.all mayE = true → mayE e = true → (l ++ [e]).all mayE = true := fun a b => by simp only [List.all_append, a, List.all_cons, b, List.all_nil]; rfl
  have wfs : ∀ {l : List Ent} {e : Ent}, (∀ x ∈ l, EWf x) → EWf e → ∀ x ∈ l ++ [e], EWf x := fun a b x hx => by
    rcases List.mem_append.1 hx with h | h
    · exact a x h
    · rw [List.mem_singleton.1 h]; exact b
  have main : (rowStep σ k).out.all mayE = true ∧ (∀ e ∈ (rowStep σ k).out, EWf e) ∧ ∀ i ∈ (rowStep σ k).there, 1 ≤ i ∧ i ≤ n + 1 := by
   unfold rowStep
   split
   · exact ⟨all may (may3 _ (by omega) (by omega)), wfs wf ⟨by simp [ent0], by simp [ent0]⟩, fun x hx => by have := there x hx; omega⟩
   · split
     · exact ⟨all may (may4 _ _ (by omega) (Nat.mod_lt _ (by decide))), wfs wf ⟨by simp [ent0], by simp [ent0]⟩, fun x hx => by have := there x hx; omega⟩
     · split
       · rename_i hc
         have hj : k / 8 % σ.there.length < σ.there.length := Nat.mod_lt _ hc.2
         have hm := there _ (List.getElem_mem hj)
         refine ⟨all may (may2 _ _ (by omega) ?_ ?_), wfs wf ⟨by simp [ent0], by simp [ent0]⟩, fun x hx => ?_⟩
         · rw [List.getD_eq_getElem?_getD, List.getElem?_eq_getElem hj, Option.getD_some]; exact hm.1
         · rw [List.getD_eq_getElem?_getD, List.getElem?_eq_getElem hj, Option.getD_some]; omega
         · have : x ∈ σ.there := by
             rcases List.mem_append.1 hx with h | h
             · exact List.mem_of_mem_take h
             · exact List.mem_of_mem_drop h
           have := there x this
           omega
       · have l3 : k / 8 % 30 < 30 := Nat.mod_lt _ (by decide)
         refine ⟨all may (may1 _ _ _ _ _ _ (by omega) (by omega) (by omega) (Nat.mod_lt _ (by decide)) (by omega) (by omega)), wfs wf ⟨by simp only; omega, by simp only; omega⟩, fun x hx => ?_⟩
         rcases List.mem_append.1 hx with h | h
         · have := there x h; omega
         · rw [List.mem_singleton.1 h]; omega
  exact ⟨ok, main.1, main.2.1, main.2.2⟩

theorem rowsG_may : ∀ (ks : List Nat), ks.length ≤ 40 → RowMay (rowsG ks) ks.length := by
  suffices ∀ n (ks : List Nat), ks.length = n → n ≤ 40 → RowMay (rowsG ks) n from fun ks h => this _ ks rfl h
  intro n
  induction n with
  | zero =>
    intro ks h _
    obtain rfl := List.eq_nil_of_length_eq_zero h
    exact ⟨⟨rfl, Nat.le_refl _, Nat.le_refl _, Nat.le_refl _, Nat.le_refl _⟩, rfl, (fun _ h => by cases h), (fun _ h => by cases h)⟩
  | succ n ih =>
    intro ks h hn
    have hne : ks ≠ [] := fun e => by rw [e] at h; cases h
    rw [← List.dropLast_concat_getLast hne, rowsG_succ]
    exact (ih ks.dropLast (by rw [List.length_dropLast]; omega) (by omega)).step (by omega) _

theorem rowStep_x {σ : RowSt} (h : ∀ e ∈ σ.out, e.x.length ≤ 10) (k : Nat) : ∀ e ∈ (rowStep σ k).out, e.x.length ≤ 10 := by
  have add : ∀ {l : List Ent} {e : Ent}, (∀ x ∈ l, x.x.length ≤ 10) → e.x.length ≤ 10 → ∀ x ∈ l ++ [e], x.x.length ≤ 10 := fun a b x hx => by
    rcases List.mem_append.1 hx with h | h
    · exact a x h
    · rw [List.mem_singleton.1 h]; exact b
  unfold rowStep
  split
  · exact add h (by simp [ent0])
  · split
    · exact add h (by unfold sealB; simp only; split <;> (try split) <;> simp)
    · split
      · exact add h (by simp [ent0])
      · exact add h (by simp)

theorem rowsG_x (ks : List Nat) : ∀ e ∈ (rowsG ks).out, e.x.length ≤ 10 := by
  unfold rowsG
  suffices ∀ (ks : List Nat) σ, (∀ e ∈ σ.out, e.x.length ≤ 10) → ∀ e ∈ (ks.foldl rowStep σ).out, e.x.length ≤ 10 from this ks _ (fun e h => by cases h)
  intro ks
  induction ks with
  | nil => intro σ h; exact h
  | cons k r ih => intro σ h; exact ih _ (rowStep_x h k)

theorem framesB_len' : ∀ l : List Ent, (∀ e ∈ l, e.x.length ≤ 10) → (framesB l).length ≤ 92 * l.length
  | [], _ => by simp [framesB]
  | e :: r, h => by
    have h1 := framesB_len' r fun x hx => h x (by simp [hx])
    have h2 : e.x.length ≤ 10 := h e (by simp)
    have h3 := vput_len e.v.toNat
    have h4 := putNs_len (nums e)
    have h5 := nums_len e
    have h6 := wrapB_len (putB e)
    have h7 : (putB e).length ≤ 77 := by simp [putB]; omega
    simp [framesB]
    omega

theorem rowsE_len (vs : List Int) : (framesB (rowsE vs)).length ≤ 3680 := by
  have h1 := framesB_len' (rowsE vs) (rowsG_x _)
  have h2 : (rowsE vs).length ≤ 40 := by
    have hl : ((vs.take 40).map rowK).length ≤ 40 := by simp; omega
    have h := rowsG_may _ hl
    unfold rowsE
    rw [h.ok.out]
    exact hl
  omega

theorem rowsE_may (vs : List Int) : (rowsE vs).all mayE = true ∧ (∀ e ∈ rowsE vs, EWf e) ∧ (rowsE vs).length ≤ 40 := by
  have hl : ((vs.take 40).map rowK).length ≤ 40 := by simp; omega
  have h := rowsG_may _ hl
  exact ⟨h.may, h.wf, by unfold rowsE; rw [h.ok.out]; exact hl⟩
end Go.Proofs.YtlhbidbdmdcdeaaGreatDoor

/-
  The rows of the laws are taken; what was there, what is. No conditions but those named in each line.
-/
namespace Go.Proofs.YtlhbidbdmdcdeaaGreatDoor
open Go Go.Abs Go.Abs.F
set_option linter.unusedVariables false

theorem foldGo_cons (q : FoS) (e : Ent) (l : List Ent) : foldGo q (e :: l) = if asksP q e = 0 then foldGo (nextP q e) l else (asksP q e, q) := rfl

theorem foldGo_append : ∀ (a b : List Ent) (q : FoS), foldGo q (a ++ b) = if (foldGo q a).1 = 0 then foldGo (foldGo q a).2 b else foldGo q a
  | [], b, q => by simp [foldGo]
  | e :: a, b, q => by
    rw [List.cons_append, foldGo_cons, foldGo_cons]
    by_cases h : asksP q e = 0
    · rw [if_pos h, if_pos h, foldGo_append a b]
    · rw [if_neg h, if_neg h, if_neg h]

theorem foldGo_one (q : FoS) (e : Ent) : foldGo q [e] = if asksP q e = 0 then (0, nextP q e) else (asksP q e, q) := by
  unfold foldGo
  split <;> simp [foldGo]

theorem foldGo_ok : ∀ (l : List Ent) (q : FoS), FOk q → FOk (foldGo q l).2
  | [], q, h => h
  | e :: l, q, h => by
    unfold foldGo
    split
    · rename_i ha
      exact foldGo_ok l _ (next_ok h ha)
    · exact h

/-- Each beginning of a list that is taken is taken. -/
theorem foldGo_pre {l : List Ent} {q : FoS} (h : (foldGo q l).1 = 0) (n : Nat) : (foldGo q (l.take n)).1 = 0 := by
  have := foldGo_append (l.take n) (l.drop n) q
  rw [List.take_append_drop] at this
  by_cases h0 : (foldGo q (l.take n)).1 = 0
  · exact h0
  · rw [if_neg h0] at this
    rw [this] at h
    exact h

theorem nextP_w (q : FoS) (e : Ent) : (nextP q e).w = e.v := by
  unfold nextP
  split
  · rfl
  · split
    · rfl
    · split <;> rfl

/-- What the rows so far come to. -/
structure RF (σ : RowSt) (q : FoS) : Prop where
  go : foldGo fs0 σ.out = (0, q)
  ok : FOk q
  ever : ∀ i : Int, i ∈ q.ever ↔ 1 ≤ i ∧ i ≤ (σ.id : Nat)
  there : q.l.map (·.i) = σ.there.map fun n : Nat => ((n : Nat) : Int)
  w : q.w ≤ (σ.view : Nat)

theorem RF.snoc {σ : RowSt} {q : FoS} (h : RF σ q) {e : Ent} (ha : asksP q e = 0) : foldGo fs0 (σ.out ++ [e]) = (0, nextP q e) := by
  rw [foldGo_append, h.go, if_pos rfl, foldGo_one, if_pos ha]

theorem asks_zero {q : FoS} {e : Ent} (hm : mayE e = true) (h1 : ¬ (e.k = 1 ∧ e.i ∈ q.ever)) (h2 : ¬ (e.k = 2 ∧ thereP q.l e.i = false)) (h3 : ¬ e.v < q.w) : asksP q e = 0 := by
  unfold asksP
  rw [if_pos hm, if_neg h1, if_neg h2, if_neg h3]

theorem RF.step {σ : RowSt} {q : FoS} (h : RF σ q) (k : Nat) (hm : ∀ e ∈ (rowStep σ k).out, mayE e = true) : ∃ q', RF (rowStep σ k) q' := by
  have hlen : q.l.length = σ.there.length := by
    have := congrArg List.length h.there
    simpa using this
  have hw := h.w
  unfold rowStep at hm ⊢
  by_cases c7 : k % 8 = 7
  · rw [if_pos c7] at hm ⊢
    obtain ⟨e, he⟩ : ∃ e, e = ({ ent0 with k := 3, v := ((σ.view + 1 : Nat) : Int) } : Ent) := ⟨_, rfl⟩
    rw [← he] at hm ⊢
    have hk : e.k = 3 := by rw [he]
    have hv : e.v = ((σ.view + 1 : Nat) : Int) := by rw [he]
    have ha := asks_zero (q := q) (hm e (by simp)) (by rw [hk]; simp) (by rw [hk]; simp) (by omega)
    have hn : nextP q e = ⟨q.l, q.ever, q.rule, e.v, e.v⟩ := by
      unfold nextP
      rw [if_neg (by omega), if_neg (by omega), if_pos hk]
    exact ⟨nextP q e, h.snoc ha, next_ok h.ok ha, by rw [hn]; exact h.ever, by rw [hn]; exact h.there, by rw [hn, hv]; exact Int.le_refl _⟩
  · rw [if_neg c7] at hm ⊢
    by_cases c6 : k % 8 = 6
    · rw [if_pos c6] at hm ⊢
      obtain ⟨e, he⟩ : ∃ e, e = ({ ent0 with k := 4, v := ((σ.view : Nat) : Int), x := sealB (k / 8 % 3) } : Ent) := ⟨_, rfl⟩
      rw [← he] at hm ⊢
      have hk : e.k = 4 := by rw [he]
      have hv : e.v = ((σ.view : Nat) : Int) := by rw [he]
      have ha := asks_zero (q := q) (hm e (by simp)) (by rw [hk]; simp) (by rw [hk]; simp) (by omega)
      have hn : nextP q e = ⟨q.l, q.ever, (parseP e.x).1, q.v, e.v⟩ := by
        unfold nextP
        rw [if_neg (by omega), if_neg (by omega), if_neg (by omega)]
      exact ⟨nextP q e, h.snoc ha, next_ok h.ok ha, by rw [hn]; exact h.ever, by rw [hn]; exact h.there, by rw [hn, hv]; exact Int.le_refl _⟩
    · rw [if_neg c6] at hm ⊢
      by_cases cd : 3 < k % 8 ∧ 0 < σ.there.length
      · rw [if_pos cd] at hm ⊢
        obtain ⟨j, hj⟩ : ∃ j, j = k / 8 % σ.there.length := ⟨_, rfl⟩
        have hjl : j < σ.there.length := by rw [hj]; exact Nat.mod_lt _ cd.2
        rw [← hj] at hm ⊢
        obtain ⟨e, he⟩ : ∃ e, e = ({ ent0 with k := 2, v := ((σ.view : Nat) : Int), i := ((σ.there.getD j 0 : Nat) : Int) } : Ent) := ⟨_, rfl⟩
        rw [← he] at hm ⊢
        have hk : e.k = 2 := by rw [he]
        have hv : e.v = ((σ.view : Nat) : Int) := by rw [he]
        have hi : e.i = ((σ.there[j] : Nat) : Int) := by
          rw [he, List.getD_eq_getElem?_getD, List.getElem?_eq_getElem hjl]; rfl
        have hq : ∃ y, q.l[j]? = some y ∧ y.i = e.i := by
          have h1 : (q.l.map (·.i))[j]? = some e.i := by
            rw [h.there, List.getElem?_map, List.getElem?_eq_getElem hjl, hi]; rfl
          rw [List.getElem?_map] at h1
          cases hy : q.l[j]? with
          | none => rw [hy] at h1; cases h1
          | some y => rw [hy] at h1; exact ⟨y, rfl, by simpa using h1⟩
        obtain ⟨y, hy, hyi⟩ := hq
        have hth : thereP q.l e.i = true := by
          unfold thereP
          rw [List.any_eq_true]
          exact ⟨y, List.mem_of_getElem? hy, by simpa using hyi⟩
        have hko : kOf q.l e.i = j := tw_len q.l j (by omega) (fun a x ha hx => by
            have := up_at h.ok.up ha hx hy
            exact decide_eq_true (by rw [← hyi]; exact this)) (fun x hx => by rw [hy] at hx; cases hx; exact decide_eq_false (by omega))
        have ha := asks_zero (q := q) (hm e (by simp)) (by rw [hk]; simp) (by rw [hth]; simp) (by omega)
        have hn : nextP q e = ⟨delL q.l e.i, q.ever, q.rule, q.v, e.v⟩ := by
          unfold nextP
          rw [if_neg (by omega), if_pos hk]
        refine ⟨nextP q e, h.snoc ha, next_ok h.ok ha, by rw [hn]; exact h.ever, ?_, by rw [hn, hv]; exact Int.le_refl _⟩
        rw [hn]
        show (delL q.l e.i).map (·.i) = _
        unfold delL
        rw [hko, List.map_append, List.map_take, List.map_drop, h.there, List.map_append, List.map_take, List.map_drop]
      · rw [if_neg cd] at hm ⊢
        obtain ⟨e, he⟩ : ∃ e, e = ({ k := 1, v := ((σ.view : Nat) : Int), i := ((σ.id + 1 : Nat) : Int), t := ((k / 8 % 4 : Nat) : Int), f := ((σ.at_ : Nat) : Int), o := ((σ.at_ + 1 + k / 8 % 30 : Nat) : Int), u := ((k % 4294967296 : Nat) : Int), x := [] } : Ent) := ⟨_, rfl⟩
        rw [← he] at hm ⊢
        have hk : e.k = 1 := by rw [he]
        have hv : e.v = ((σ.view : Nat) : Int) := by rw [he]
        have hi : e.i = ((σ.id + 1 : Nat) : Int) := by rw [he]
        have hni : e.i ∉ q.ever := by rw [h.ever, hi]; omega
        have ha := asks_zero (q := q) (hm e (by simp)) (by intro hh; exact hni hh.2) (by rw [hk]; simp) (by omega)
        have hn : nextP q e = ⟨insL q.l (infE e), q.ever ++ [e.i], q.rule, q.v, e.v⟩ := by
          unfold nextP
          rw [if_pos hk]
        have hko : kOf q.l (infE e).i = q.l.length := tw_len q.l _ (Nat.le_refl _) (fun a x ha hx => by
            have h1 := h.ok.ev x (List.mem_of_getElem? hx)
            rw [h.ever] at h1
            show decide (x.i < e.i) = true
            exact decide_eq_true (by omega)) (fun x hx => by have := (List.getElem?_eq_some_iff.1 hx).1; omega)
        refine ⟨nextP q e, h.snoc ha, next_ok h.ok ha, fun i => ?_, ?_, by rw [hn, hv]; exact Int.le_refl _⟩
        · rw [hn]
          show i ∈ q.ever ++ [e.i] ↔ 1 ≤ i ∧ i ≤ ((σ.id + 1 : Nat) : Int)
          rw [List.mem_append, h.ever, List.mem_singleton, hi]
          omega
        · rw [hn]
          show (insL q.l (infE e)).map (·.i) = (σ.there ++ [σ.id + 1]).map _
          unfold insL
          rw [hko, List.take_length, List.drop_length, List.map_append, h.there, List.map_append]
          show _ ++ [e.i] = _
          rw [hi]
          rfl

theorem rows_rf : ∀ (n : Nat) (ks : List Nat), ks.length = n → n ≤ 40 → ∃ q, RF (rowsG ks) q
  | 0, ks, h, _ => by
    rw [List.length_eq_zero_iff.1 h]
    exact ⟨fs0, rfl, fs0_ok, fun i => by simp [fs0, rowsG]; omega, rfl, Int.le_refl _⟩
  | n + 1, ks, h, hn => by
    rcases List.eq_nil_or_concat ks with rfl | ⟨l, a, rfl⟩
    · simp at h
    · have hl : l.length = n := by simpa using h
      obtain ⟨q, hq⟩ := rows_rf n l hl (by omega)
      have hs : rowsG (l.concat a) = rowStep (rowsG l) a := by simp [rowsG]
      have hm := (rowsG_may (l.concat a) (by omega)).may
      rw [hs] at hm ⊢
      rw [List.all_eq_true] at hm
      exact hq.step a hm

theorem rows_taken (vs : List Int) : (foldGo fs0 (rowsE vs)).1 = 0 := by
  obtain ⟨q, h⟩ := rows_rf ((vs.take 40).map rowK).length ((vs.take 40).map rowK) rfl (by simp; omega)
  unfold rowsE
  rw [h.go]

/-- What a number's history says. -/
structure Sc where
  ever : Bool
  there : Bool
  view : Int
def scStep (k : Int) (s : Sc) (e : Ent) : Sc :=
  ⟨s.ever || (decide (e.k = 1) && decide (e.i = k)), if e.k = 2 ∧ e.i = k then false else (s.there || (decide (e.k = 1) && decide (e.i = k))), e.v⟩

structure ScOk (k : Int) (s : Sc) (q : FoS) : Prop where
  ever : s.ever = decide (k ∈ q.ever)
  there : s.there = thereP q.l k
  view : s.view = q.w

theorem there_ins (l : List Inf) (a : Inf) (k : Int) : thereP (insL l a) k = (thereP l k || decide (a.i = k)) := by
  have h : thereP l k = (thereP (l.take (kOf l a.i)) k || thereP (l.drop (kOf l a.i)) k) := by
    unfold thereP
    rw [← List.any_append, List.take_append_drop]
  rw [h]
  unfold insL thereP
  rw [List.any_append, List.any_cons]
  cases List.any (l.take (kOf l a.i)) _ <;> cases List.any (l.drop (kOf l a.i)) _ <;> cases decide (a.i = k) <;> rfl

theorem there_del {l : List Inf} {i : Int} (hp : l.Pairwise fun a b => a.i < b.i) (h : thereP l i = true) (k : Int) : thereP (delL l i) k = (thereP l k && !decide (i = k)) := by
  have hk := kOf_lt hp h
  have hg : l[kOf l i]? = some l[kOf l i] := List.getElem?_eq_getElem hk
  obtain ⟨y, hy⟩ : ∃ y, y = l[kOf l i] := ⟨_, rfl⟩
  rw [← hy] at hg
  have hsp : l = l.take (kOf l i) ++ y :: l.drop (kOf l i + 1) := by
    conv => lhs; rw [← List.take_append_drop (kOf l i) l, List.drop_eq_getElem_cons hk, ← hy]
  have hyi : y.i = i := by
    unfold thereP at h
    rw [List.any_eq_true] at h
    obtain ⟨x, hx, ex⟩ := h
    have ex' : x.i = i := by simpa using ex
    have hyd : i ≤ y.i := high_drop hp (by rw [List.drop_eq_getElem_cons hk, ← hy]; exact List.mem_cons_self)
    have hx' := hx
    rw [hsp] at hx'
    rcases List.mem_append.1 hx' with h1 | h1
    · have := low_take h1; omega
    · rcases List.mem_cons.1 h1 with rfl | h1
      · exact ex'
      · obtain ⟨a, ha⟩ := List.getElem?_of_mem h1
        rw [List.getElem?_drop] at ha
        have := up_at hp (show kOf l i < kOf l i + 1 + a by omega) hg ha
        omega
  have hs : thereP l k = (thereP (l.take (kOf l i)) k || (decide (i = k) || thereP (l.drop (kOf l i + 1)) k)) := by
    conv => lhs; rw [hsp]
    unfold thereP
    rw [List.any_append, List.any_cons, hyi]
  by_cases e : i = k
  · subst e
    rw [decide_eq_true rfl, Bool.not_true, Bool.and_false]
    unfold thereP delL
    rw [List.any_eq_false]
    intro x hx
    simp only [decide_eq_true_eq]
    rcases List.mem_append.1 hx with h1 | h1
    · have := low_take h1; omega
    · obtain ⟨a, ha⟩ := List.getElem?_of_mem h1
      rw [List.getElem?_drop] at ha
      have := up_at hp (show kOf l i < kOf l i + 1 + a by omega) hg ha
      omega
  · rw [hs, decide_eq_false e]
    unfold delL thereP
    rw [List.any_append]
    simp

theorem ScOk.step {k : Int} {s : Sc} {q : FoS} {e : Ent} (h : ScOk k s q) (ok : FOk q) (ha : asksP q e = 0) : ScOk k (scStep k s e) (nextP q e) := by
  have hm : mayE e = true := by
    unfold asksP at ha
    by_cases hm : mayE e = true
    · exact hm
    · rw [if_neg hm] at ha; cases ha
  obtain ⟨h1, h2, h3⟩ := h
  refine ⟨?_, ?_, (nextP_w q e).symm⟩
  · show (s.ever || (decide (e.k = 1) && decide (e.i = k))) = _
    rw [h1]
    unfold nextP
    by_cases c1 : e.k = 1
    · rw [if_pos c1, decide_eq_true c1, Bool.true_and]
      show _ = decide (k ∈ q.ever ++ [e.i])
      by_cases hi : k ∈ q.ever
      · simp [hi]
      · by_cases he : e.i = k
        · simp [hi, he]
        · have : ¬ k = e.i := fun h => he h.symm
          simp [hi, he, this]
    · rw [if_neg c1, decide_eq_false c1, Bool.false_and, Bool.or_false]
      split
      · rfl
      · split <;> rfl
  · show (if e.k = 2 ∧ e.i = k then false else (s.there || (decide (e.k = 1) && decide (e.i = k)))) = _
    rw [h2]
    unfold nextP
    by_cases c1 : e.k = 1
    · rw [if_pos c1, if_neg (by omega), decide_eq_true c1, Bool.true_and]
      exact (there_ins q.l (infE e) k).symm
    · rw [if_neg c1, decide_eq_false c1, Bool.false_and, Bool.or_false]
      by_cases c2 : e.k = 2
      · rw [if_pos c2]
        have hth : thereP q.l e.i = true := by
          unfold asksP at ha
          rw [if_pos hm, if_neg (by omega)] at ha
          cases ht : thereP q.l e.i with
          | true => rfl
          | false => rw [if_pos ⟨c2, ht⟩] at ha; cases ha
        show _ = thereP (delL q.l e.i) k
        rw [there_del ok.up hth k]
        by_cases he : e.i = k
        · rw [if_pos ⟨c2, he⟩, decide_eq_true he]; simp
        · rw [if_neg (fun h => he h.2), decide_eq_false he]; simp
      · rw [if_neg c2, if_neg (fun h => c2 h.1)]
        split <;> rfl

theorem scan_ok {k : Int} : ∀ (l : List Ent) {s : Sc} {q : FoS}, ScOk k s q → FOk q → (foldGo q l).1 = 0 → ScOk k (l.foldl (scStep k) s) (foldGo q l).2
  | [], s, q, h, _, _ => h
  | e :: l, s, q, h, ok, h0 => by
    by_cases ha : asksP q e = 0
    · have hg : foldGo q (e :: l) = foldGo (nextP q e) l := by
        conv => lhs; unfold foldGo
        rw [if_pos ha]
      rw [hg] at h0 ⊢
      exact scan_ok l (h.step ok ha) (next_ok ok ha) h0
    · exfalso
      have hg : foldGo q (e :: l) = (asksP q e, q) := by
        conv => lhs; unfold foldGo
        rw [if_neg ha]
      rw [hg] at h0
      exact ha h0

/-- The last view of entries that are taken may be an entry's. -/
theorem w_range : ∀ (l : List Ent) (q : FoS), 0 ≤ q.w → q.w ≤ 1073741824 → (foldGo q l).1 = 0 → 0 ≤ (foldGo q l).2.w ∧ (foldGo q l).2.w ≤ 1073741824
  | [], q, h0, h1, _ => ⟨h0, h1⟩
  | e :: l, q, h0, h1, hz => by
    by_cases ha : asksP q e = 0
    · have hg : foldGo q (e :: l) = foldGo (nextP q e) l := by
        conv => lhs; unfold foldGo
        rw [if_pos ha]
      have hm : mayE e = true := by
        unfold asksP at ha
        by_cases hm : mayE e = true
        · exact hm
        · rw [if_neg hm] at ha; cases ha
      obtain ⟨v0, v1, _⟩ := mayE_range hm
      rw [hg] at hz ⊢
      exact w_range l _ (by rw [nextP_w]; exact v0) (by rw [nextP_w]; exact v1) hz
    · exfalso
      have hg : foldGo q (e :: l) = (asksP q e, q) := by
        conv => lhs; unfold foldGo
        rw [if_neg ha]
      rw [hg] at hz
      exact ha hz
end Go.Proofs.YtlhbidbdmdcdeaaGreatDoor
