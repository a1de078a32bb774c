/-
  An arbiter over a disk: opening it, its last grant, all grants, asking. No conditions but those named in each line.
-/
import Derived.Test.YtgecidicpdobfaaDoorGrants
namespace Go.Proofs.YtgecidicpdobfaaDoor
open Go Go.Abs Go.Abs.F
set_option linter.unusedVariables false

def views : List UInt8 := [118, 105, 101, 119, 115]
theorem may_v : May views := fun s => (orP_right rfl).trans ((orP_right rfl).trans (pureP_val rfl (by kernel_rfl) rfl))

def enc : List (Nat × Nat) → List UInt8
  | [] => []
  | g :: r => putG g.1 g.2 ++ enc r
theorem enc_append : ∀ a b : List (Nat × Nat), enc (a ++ b) = enc a ++ enc b
  | [], b => rfl
  | g :: r, b => by simp [enc, enc_append r b, List.append_assoc]

def lastG (gs : List (Nat × Nat)) : Int × Int := match gs.getLast? with
  | none => (0, -1)
  | some g => (g.1, g.2)

section
variable {s t : St} {i m a : Nat} {room : Int} {f : Fl} {x y : S} {bs : List UInt8} {gs : List (Nat × Nat)}

/-- An arbiter: its disk, its file, its block, its grants; what else is to stay. -/
structure Ar (K : Nat → Prop) (G : Nat → Option Blk) (s : St) (i m : Nat) (room : Int) (f : Fl) (a : Nat) (x : S) (gs : List (Nat × Nat)) : Prop where
  dk : Dk s i m room [f]
  nm : f.nm = views
  fl : f.l = U (enc gs)
  sure : f.sure = f.l.length
  ar : s.get a = some (.cells true [.ptr i 0, x])
  gs : GS s x gs
  af : a ≠ f.fb ∧ Go.Proofs.YtgecidicpdobfaaDoor.own f.x ≠ some a
  xf : ∀ c, Go.Proofs.YtgecidicpdobfaaDoor.own x = some c → c ≠ a ∧ c ≠ i ∧ c ≠ m ∧ c ≠ f.fb ∧ Go.Proofs.YtgecidicpdobfaaDoor.own f.x ≠ some c
  ai : a ≠ i ∧ a ≠ m
  kp : ∀ b, K b → b < s.size ∧ s.get b = G b ∧ b ≠ i ∧ b ≠ m ∧ b ≠ f.fb ∧ b ≠ a ∧ Go.Proofs.YtgecidicpdobfaaDoor.own f.x ≠ some b ∧ Go.Proofs.YtgecidicpdobfaaDoor.own x ≠ some b

theorem Ar.gr {K : Nat → Prop} {G : Nat → Option Blk} (h : Ar K G s i m room f a x gs) (g : Gr s t) : Ar K G t i m room f a x gs :=
  ⟨h.dk.gr g, h.nm, h.fl, h.sure, by rw [g.2.2 a (h.dk.wf.lt h.ar)]; exact h.ar, h.gs.keep fun c hc => g.2.2 c (h.gs.lt h.dk.wf hc), h.af, h.xf, h.ai, fun b hb => by
    obtain ⟨k1, k2, k3⟩ := h.kp b hb
    exact ⟨Nat.lt_of_lt_of_le k1 g.2.1, by rw [g.2.2 b k1]; exact k2, k3⟩⟩

/-- What else is to stay is written. -/
theorem Ar.set {K : Nat → Prop} {G : Nat → Option Blk} (h : Ar K G s i m room f a x gs) {L : Nat} (hL : K L) (b : Blk) : Ar K (fun c => if c = L then some b else G c) (s.set L b) i m room f a x gs := by
  obtain ⟨l1, l2, l3, l4, l5, l6, l7, l8⟩ := h.kp L hL
  have wf := St.wf_set h.dk.wf l1 b
  obtain ⟨a1, a2, a3⟩ := h.dk.fl 0 f rfl
  refine ⟨⟨wf, by rw [St.get_set_ne _ _ (Ne.symm l3)]; exact h.dk.ri, by rw [St.get_set_ne _ _ (Ne.symm l4)]; exact h.dk.mp, fun k f' hf => ?_, h.dk.ap, h.dk.nm⟩, h.nm, h.fl, h.sure, by rw [St.get_set_ne _ _ (Ne.symm l6)]; exact h.ar, h.gs.keep fun c hc => St.get_set_ne _ _ (fun e => l8 (by rw [← e]; exact hc)), h.af, h.xf, h.ai, fun c hc => ?_⟩
  · cases k with
    | zero =>
      obtain rfl : f = f' := by simpa using hf
      exact ⟨by rw [St.get_set_ne _ _ (Ne.symm l5)]; exact a1, a2.keep fun c hc => St.get_set_ne _ _ (fun e => l7 (by rw [← e]; exact hc)), a3⟩
    | succ k => simp at hf
  · obtain ⟨k1, k2, k3⟩ := h.kp c hc
    refine ⟨by simpa using k1, ?_, k3⟩
    by_cases hcl : c = L
    · subst hcl
      rw [St.get_set_same, if_pos rfl]
    · rw [St.get_set_ne _ _ hcl, if_neg hcl]
      exact k2

theorem nobody_run (d : Nat) (wf : s.wf) : ∃ t, R (d + 1) 22 [] s = some (G2 0 (-1), t) ∧ Gr s t := by
  rw [f22_run]
  unfold f22
  obtain ⟨s1, hs1⟩ : ∃ s1, s1 = s.push (.cells true [.int .i64 0, .int .i64 0]) := ⟨_, rfl⟩
  have nc := aNew_cells s [.int .i64 0, .int .i64 0]
  rw [← hs1] at nc
  have g1 : Gr s s1 := by rw [hs1]; exact Gr.push wf _
  have z1 : s1.size = s.size + 1 := by rw [hs1]; simp
  have hc1 : s1.get s.size = some (.cells true [.int .i64 0, .int .i64 0]) := by rw [hs1]; exact St.get_push_same _ _
  have ag : asAggT (aFill [.int .i64 0, .int .i64 0] [(1, 1, (I .i64 (-1)))]) = some (G2 0 (-1)) := rfl
  have st := store2 (a := 0) (b := -1) hc1
  have ld := load2 (g := (s1.set s.size (.cells true [.int .i64 0, .int .i64 (-1)])).get) (St.get_set_same s1 s.size _)
  refine ⟨s1.set s.size (.cells true [.int .i64 0, .int .i64 (-1)]), ?_, St.wf_set g1.1 (by omega) _, by simp; omega, fun b hb => ?_⟩
  · simp [nc, ag, st, ld, rC, rT, retT, allV]
  · rw [St.get_set_ne _ _ (by omega)]
    exact g1.2.2 b hb

theorem lastG_at {g : Nat × Nat} (h : gs[gs.length - 1]? = some g) : lastG gs = ((g.1 : Int), (g.2 : Int)) := by
  unfold lastG
  rw [List.getLast?_eq_getElem?, h]

/-- The last grant. -/
theorem last_run (d : Nat) (wf : s.wf) (ha : s.get a = some (.cells true [.ptr i 0, x])) (hg : GS s x gs) (hl : gs.length ≤ 1000) : ∃ t, R (d + 2) 18 [Z (.ptr a 0)] s = some (G2 (lastG gs).1 (lastG gs).2, t) ∧ Gr s t := by
  rw [f18_run]
  unfold f18
  obtain ⟨s1, hs1⟩ : ∃ s1, s1 = s.push (.cells true [.int .i64 0, .int .i64 0]) := ⟨_, rfl⟩
  have nc := aNew_cells s [.int .i64 0, .int .i64 0]
  rw [← hs1] at nc
  have g1 : Gr s s1 := by rw [hs1]; exact Gr.push wf _
  have z1 : s1.size = s.size + 1 := by rw [hs1]; simp
  have hc1 : s1.get s.size = some (.cells true [.int .i64 0, .int .i64 0]) := by rw [hs1]; exact St.get_push_same _ _
  have hal := wf.lt ha
  have ha1 : s1.get a = some (.cells true [.ptr i 0, x]) := (g1.2.2 a hal).trans ha
  have l1 : aLoad1 (Z (.ptr a 1)) s1.get = some (Z x) := aLoad1_of ha1 rfl
  have hg1 : GS s1 x gs := hg.keep fun c hc => g1.2.2 c (hg.lt wf hc)
  have hll := hg1.len
  cases hgs : gs with
  | nil =>
    subst hgs
    have c0 : (((([] : List (Nat × Nat)).length : Nat) : Int) = 0) = True := eq_true rfl
    obtain ⟨s2, e2, g2⟩ := nobody_run d g1.1
    have hc2 : s2.get s.size = some (.cells true [.int .i64 0, .int .i64 0]) := (g2.2.2 _ (by omega)).trans hc1
    have st := store2 (a := 0) (b := -1) hc2
    have ld := load2 (g := (s2.set s.size (.cells true [.int .i64 0, .int .i64 (-1)])).get) (St.get_set_same s2 s.size _)
    have hlg : lastG [] = (0, -1) := rfl
    refine ⟨s2.set s.size (.cells true [.int .i64 0, .int .i64 (-1)]), ?_, St.wf_set g2.1 (by have := g2.2.1; omega) _, by have := g2.2.1; simp; omega, fun b hb => ?_⟩
    · rw [hlg]
      generalize R (d + 1) = r at e2 ⊢
      simp at hll
      simp [nc, l1, hll, e2, st, ld, rC, rT, retT, allV]
    · rw [St.get_set_ne _ _ (by omega), g2.2.2 b (by omega)]
      exact g1.2.2 b hb
  | cons g0 r0 =>
    have hpos : 0 < gs.length := by rw [hgs]; simp
    rw [← hgs]
    obtain ⟨g, hgg⟩ : ∃ g, gs[gs.length - 1]? = some g := ⟨_, List.getElem?_eq_getElem (by omega)⟩
    rw [lastG_at hgg]
    obtain ⟨c, q1, q2, q3⟩ := hg1.at (j := gs.length - 1) (n := (gs.length : Int) - 1) (by omega) hgg
    have c0 : ((gs.length : Int) = 0) = False := eq_false (by omega)
    have w1 : IntKind.i64.wrap ((gs.length : Int) - 1) = (gs.length : Int) - 1 := wrap_in _ (by omega) (by omega)
    have st := store2 (a := g.1) (b := g.2) hc1
    have ld := load2 (g := (s1.set s.size (.cells true [.int .i64 g.1, .int .i64 g.2])).get) (St.get_set_same s1 s.size _)
    refine ⟨s1.set s.size (.cells true [.int .i64 g.1, .int .i64 g.2]), ?_, St.wf_set g1.1 (by omega) _, by simp; omega, fun b hb => ?_⟩
    · generalize R (d + 1) = r at *
      generalize (gs.length : Int) = L at *
      simp [nc, l1, hll, c0, w1, q1, q2, st, ld, rC, rT, retT, allV]
    · rw [St.get_set_ne _ _ (by omega)]
      exact g1.2.2 b hb

/-- All grants, copied. -/
theorem all_run (d : Nat) (wf : s.wf) (ha : s.get a = some (.cells true [.ptr i 0, x])) (hg : GS s x gs) (hl : gs.length ≤ 1000) : ∃ y t, R (d + 2) 12 [Z (.ptr a 0)] s = some (Z y, t) ∧ Gr s t ∧ GS t y gs := by
  have key : ∃ y t, R (d + 1) 26 [Z x] s = some (Z y, t) ∧ Gr s t ∧ GS t y gs := by
    rw [f26_run]
    unfold f26
    rcases hg with ⟨rfl, rfl⟩ | ⟨c, rows, rfl, h0, h1, h2, h3⟩
    · have e : eqB .l (Z .nils) (Z .nils) = some (B true) := rfl
      exact ⟨.nils, s, by simp [e], Gr.refl wf, .inl ⟨rfl, rfl⟩⟩
    · have e : eqB .l (Z (.sl c 0 gs.length (.grown 2))) (Z .nils) = some (B false) := rfl
      obtain ⟨s1, hs1⟩ : ∃ s1, s1 = s.push (.cells true []) := ⟨_, rfl⟩
      have g1 : Gr s s1 := by rw [hs1]; exact Gr.push wf _
      have nw : aNew s (nSlice 0 (aFill [] [])) = some (Z (.sl s.size 0 0 (.known 0)), s1) := by simp [aNew, nSlice, aFill, hs1]
      have hn : s1.get s.size = some (.cells true []) := by rw [hs1]; exact St.get_push_same _ _
      have hpos : 0 < gs.length := by cases gs with | nil => exact absurd rfl h0 | cons _ _ => simp
      have hsrc : aSrc 2 (Z (.sl c 0 gs.length (.grown 2))) s1.get = some (gs.length, cG gs) := by
        simp only [aSrc, if_neg (Nat.pos_iff_ne_zero.1 hpos), (g1.2.2 c (wf.lt h1)).trans h1]
        rw [if_pos (by omega), List.drop_zero, Nat.mul_comm, h3]
      have ap : aAppend 2 16 (Z (.sl s.size 0 0 (.known 0))) (Z (.sl c 0 gs.length (.grown 2))) s1 = some (Z (.sl s1.size 0 gs.length (.grown 2)), s1.push (.cells true (cG gs))) := by
        unfold aAppend
        rw [hsrc]
        dsimp only
        rw [if_neg (by decide), if_pos (by omega), hn]
        dsimp only
        rw [if_neg (by omega), if_pos (by simp)]
        simp
      refine ⟨_, _, by simp [e, nw, ap], g1.trans (Gr.push g1.1 _), .inr ⟨s1.size, cG gs, rfl, h0, St.get_push_same _ _, by rw [cG_len]; omega, List.take_of_length_le (by rw [cG_len]; omega)⟩⟩
  obtain ⟨y, t, e, g, hy⟩ := key
  rw [f12_run]
  unfold f12
  have l1 : aLoad1 (Z (.ptr a 1)) s.get = some (Z x) := aLoad1_of ha rfl
  refine ⟨y, t, ?_, g, hy⟩
  generalize R (d + 1) = r at e ⊢
  simp [l1, e]

/-- Opening, what there is being read whole. -/
theorem open_file (d : Nat) (h : Dk s i m room [f]) (hnm : f.nm = views) (hl : f.l = U bs) (hlen : bs.length ≤ 400) (hP : getP bs = (gs, bs.length)) (hbs : bs = enc gs) :
    ∃ t x' y, R (d + 6) 7 [Z (.ptr i 0)] s = some (.tup [.s (.ptr (t.size - 1) 0), .s (.int .i64 0)], t) ∧ s.size < t.size ∧ (∀ b, b < s.size → b ≠ f.fb → t.get b = s.get b) ∧ (own x' = none ∨ own x' = own f.x) ∧ (∀ c, own y = some c → s.size ≤ c) ∧
      Ar (fun _ => False) (fun _ => none) t i m room { f with x := x', l := f.l, sure := f.l.length } (t.size - 1) y gs := by
  rw [f7_run]
  unfold f7
  have hm : May f.nm := by rw [hnm]; exact may_v
  obtain ⟨y2, s2, e2, oc, g2, r2, o2⟩ := read_run (d + 2) h (k := 0) rfl hm
  have h2 := h.gr g2
  rw [hl] at r2
  obtain ⟨y3, s3, e3, g3, r3, o3⟩ := get_run d h2.wf r2 oc.1 (fun c hc => (o2 c hc).2) hlen
  rw [hP] at e3 r3
  have h3 := h2.gr g3
  obtain ⟨x4, s4, e4, h4, z4, k4, o4⟩ := cut_run (d + 2) h3 (k := 0) rfl hm (n := bs.length) (by rw [hl, U_len]; exact Nat.le_refl _)
  simp only [List.set_cons_zero] at h4
  have htk : f.l.take bs.length = f.l := List.take_of_length_le (by rw [hl, U_len]; exact Nat.le_refl _)
  rw [htk] at h4
  obtain ⟨s5, e5, h5, z5, k5⟩ := sync_run (d + 2) h4 (k := 0) rfl hm
  simp only [List.set_cons_zero] at h5
  rw [hnm] at e2 e4 e5
  dsimp only at e2 e3 e4 e5
  have z2 := g2.2.1
  have z3 := g3.2.1
  obtain ⟨s6, hs6⟩ : ∃ s6, s6 = s5.push (.cells true [.ptr i 0, y3]) := ⟨_, rfl⟩
  have g6 : Gr s5 s6 := by rw [hs6]; exact Gr.push h5.wf _
  have z6 : s6.size = s5.size + 1 := by rw [hs6]; simp
  have nb : aNew s5 (nBox (.v (.agg [.ptr i 0, y3]))) = some (Z (.ptr s5.size 0), s6) := by rw [hs6]; rfl
  have ag : asAggT (aFill [.nilp, .nils] [(0, 1, Z (.ptr i 0)), (1, 1, Z y3)]) = some (.v (.agg [.ptr i 0, y3])) := by simp [asAggT, aFill, V.cells, setRange]
  obtain ⟨a1, a2, a3, a4, a5, a6, a7⟩ := h.fl 0 f rfl
  have hfb := h.wf.lt a1
  have hfr : ∀ b, b < s.size → b ≠ f.fb → s6.get b = s.get b := fun b hb hb1 => by
    rw [g6.2.2 b (by omega), k5 b hb1, k4 b hb1, g3.2.2 b (by omega), g2.2.2 b hb]
  refine ⟨s6, x4, y3, ?_, by omega, hfr, o4, fun c hc => by have := o3 c hc; omega, ?_⟩
  · rw [show s6.size - 1 = s5.size by omega]
    have cv : views = [118, 105, 101, 119, 115] := rfl
    rw [cv] at e2 e4 e5
    generalize R (d + 5) = r at e2 e3 e4 e5 ⊢
    simp [e2, aExtract, e3, e4, e5, ag, nb, retT, allV]
  · rw [show s6.size - 1 = s5.size by omega]
    have hil := h.wf.lt h.ri
    have hml := h.wf.lt h.mp
    refine ⟨h5.gr g6, hnm, by rw [← hbs]; exact hl, rfl, by rw [hs6]; exact St.get_push_same _ _, ?_, ⟨by show s5.size ≠ f.fb; omega, ?_⟩, fun c hc => ?_, ⟨by omega, by omega⟩, fun b hb => hb.elim⟩
    · refine r3.keep fun c hc => ?_
      have := o3 c hc
      rw [g6.2.2 c (by omega), k5 c (by show c ≠ f.fb; omega), k4 c (by omega)]
    · intro e
      have e' : own x4 = some s5.size := e
      rcases o4 with o | o
      · rw [o] at e'; cases e'
      · rw [o] at e'
        have := a2.lt h.wf e'
        omega
    · have := o3 c hc
      refine ⟨by omega, by omega, by omega, by show c ≠ f.fb; omega, fun e => ?_⟩
      have e' : own x4 = some c := e
      rcases o4 with o | o
      · rw [o] at e'; cases e'
      · rw [o] at e'
        have := a2.lt h.wf e'
        omega

theorem getP_nil : getP [] = ([], 0) := by decide

/-- Opening over an empty disk. -/
theorem open_new (d : Nat) (h : Dk s i m room []) (hroom : 0 ≤ room) :
    ∃ t f, R (d + 6) 7 [Z (.ptr i 0)] s = some (.tup [.s (.ptr (t.size - 1) 0), .s (.int .i64 0)], t) ∧ s.size < t.size ∧ (∀ b, b < s.size → b ≠ m → t.get b = s.get b) ∧ s.size ≤ f.fb ∧ f.fb < t.size ∧ (∀ c, own f.x = some c → s.size ≤ c) ∧
      Ar (fun _ => False) (fun _ => none) t i m room f (t.size - 1) .nils [] := by
  rw [f7_run]
  unfold f7
  have e2 := read_none (d + 2) h (nm := views) (by simp) may_v
  obtain ⟨x3, fb, s3, e3, h3, z3, k3, hfb, hx3⟩ := append_new (d + 2) h ⟨by simp, by simp⟩ (nm := views) (by simp) may_v (y := .nils) (xs := []) (.inl ⟨rfl, .inl rfl⟩) (fun c hc => by cases hc) (by simp [own]) (by simp [tot]; omega) (by simp)
  rw [List.nil_append] at h3
  obtain ⟨y4, s4, e4, g4, r4, o4⟩ := get_run (x := .nils) (bs := []) d h3.wf (.inl ⟨rfl, .inl rfl⟩) trivial (fun c hc => by cases hc) (by simp)
  rw [getP_nil] at e4 r4
  have hy4 : y4 = .nils := by
    rcases r4 with ⟨e, _⟩ | ⟨_, _, _, e, _⟩
    · exact e
    · exact absurd rfl e
  subst hy4
  have h4 := h3.gr g4
  obtain ⟨x5, s5, e5, h5, z5, k5, o5⟩ := cut_run (d + 2) h4 (k := 0) rfl may_v (n := 0) (Nat.zero_le _)
  simp only [List.set_cons_zero] at h5
  obtain ⟨s6, e6, h6, z6, k6⟩ := sync_run (d + 2) h5 (k := 0) rfl may_v
  simp only [List.set_cons_zero] at h6
  have z4 := g4.2.1
  obtain ⟨s7, hs7⟩ : ∃ s7, s7 = s6.push (.cells true [.ptr i 0, .nils]) := ⟨_, rfl⟩
  have g7 : Gr s6 s7 := by rw [hs7]; exact Gr.push h6.wf _
  have z7 : s7.size = s6.size + 1 := by rw [hs7]; simp
  have nb : aNew s6 (nBox (.v (.agg [.ptr i 0, .nils]))) = some (Z (.ptr s6.size 0), s7) := by rw [hs7]; rfl
  have ag : asAggT (aFill [.nilp, .nils] [(0, 1, Z (.ptr i 0)), (1, 1, Z .nils)]) = some (.v (.agg [.ptr i 0, .nils])) := by simp [asAggT, aFill, V.cells, setRange]
  have hfb3 := h3.wf.lt (h3.fl 0 _ rfl).1
  dsimp only at hfb3 e3 e4 e5 e6
  have hil := h.wf.lt h.ri
  have hml := h.wf.lt h.mp
  have hxl : ∀ c, own x5 = some c → s.size ≤ c ∧ c < s3.size := fun c hc => by
    rcases o5 with o | o
    · rw [o] at hc; cases hc
    · rw [o] at hc
      exact ⟨hx3 c hc, (h3.fl 0 _ rfl).2.1.lt h3.wf hc⟩
  refine ⟨s7, ⟨views, fb, x5, [], 0⟩, ?_, by omega, fun b hb hb1 => ?_, hfb, by show fb < _; omega, fun c hc => (hxl c hc).1, ?_⟩
  · rw [show s7.size - 1 = s6.size by omega]
    have cv : views = [118, 105, 101, 119, 115] := rfl
    rw [cv] at e2 e3 e5 e6
    generalize R (d + 5) = r at e2 e3 e4 e5 e6 ⊢
    simp at e4 e5
    simp [e2, e3, aExtract, e4, e5, e6, ag, nb, retT, allV]
  · rw [g7.2.2 b (by omega), k6 b (by show b ≠ fb; omega), k5 b (by show b ≠ fb; omega), g4.2.2 b (by omega), k3 b hb hb1]
  · rw [show s7.size - 1 = s6.size by omega]
    refine ⟨h6.gr g7, rfl, rfl, rfl, by rw [hs7]; exact St.get_push_same _ _, .inl ⟨rfl, rfl⟩, ⟨by show s6.size ≠ fb; omega, fun e => ?_⟩, (fun c hc => by cases hc), ⟨by omega, by omega⟩, fun b hb => hb.elim⟩
    have := hxl _ e
    omega
end
end Go.Proofs.YtgecidicpdobfaaDoor
