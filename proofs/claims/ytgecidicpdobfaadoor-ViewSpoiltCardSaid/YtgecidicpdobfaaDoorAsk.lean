/-
  Asking an arbiter. No conditions but those named in each line.
-/
import Derived.Test.YtgecidicpdobfaaDoorArb
namespace Go.Proofs.YtgecidicpdobfaaDoor
open Go Go.Abs Go.Abs.F
set_option linter.unusedVariables false
section
variable {s t : St} {i m a : Nat} {room : Int} {f : Fl} {x y : S} {bs : List UInt8} {gs : List (Nat × Nat)} {K : Nat → Prop} {G : Nat → Option Blk}

theorem Dk.keep1 (h : Dk s i m room [f]) (wf : t.wf) (hi : t.get i = s.get i) (hm : t.get m = s.get m) (hfb : t.get f.fb = s.get f.fb) (hx : ∀ c, own f.x = some c → t.get c = s.get c) : Dk t i m room [f] := by
  obtain ⟨a1, a2, a3⟩ := h.fl 0 f rfl
  refine ⟨wf, hi.trans h.ri, hm.trans h.mp, fun k f' hf => ?_, h.ap, h.nm⟩
  cases k with
  | zero =>
    obtain rfl : f = f' := by simpa using hf
    exact ⟨hfb.trans a1, a2.keep hx, a3⟩
  | succ k => simp at hf

/-- A site that has the last grant, or that does not know it. -/
theorem ask_old (d : Nat) (h : Ar K G s i m room f a x gs) (hl : gs.length ≤ 1000) {n v : Int} (hn : 0 ≤ n ∧ n < 2) (hv : 0 ≤ v) (hc : (lastG gs).2 = n ∨ v < (lastG gs).1) :
    ∃ t, R (d + 6) 8 [Z (.ptr a 0), I .i64 n, I .i64 v] s = some (.tup [.agg [.int .i64 (lastG gs).1, .int .i64 (lastG gs).2], .s (.int .i64 0)], t) ∧ Gr s t := by
  rw [f8_run]
  unfold f8
  obtain ⟨s1, hs1⟩ : ∃ s1, s1 = s.push (.cells true [.int .i64 0, .int .i64 0]) := ⟨_, rfl⟩
  have nc1 := aNew_cells s [.int .i64 0, .int .i64 0]
  rw [← hs1] at nc1
  have g1 : Gr s s1 := by rw [hs1]; exact Gr.push h.dk.wf _
  have z1 : s1.size = s.size + 1 := by rw [hs1]; simp
  have hc1 : s1.get s.size = some (.cells true [.int .i64 0, .int .i64 0]) := by rw [hs1]; exact St.get_push_same _ _
  have h1 := h.gr g1
  obtain ⟨s2, e2, g2⟩ := last_run (d + 3) h1.dk.wf h1.ar h1.gs hl
  generalize (lastG gs).1 = lv at e2 hc ⊢
  generalize (lastG gs).2 = ls at e2 hc ⊢
  have z2 := g2.2.1
  obtain ⟨s3, hs3⟩ : ∃ s3, s3 = s2.push (.cells true [.int .i64 0, .int .i64 0]) := ⟨_, rfl⟩
  have nc3 := aNew_cells s2 [.int .i64 0, .int .i64 0]
  rw [← hs3] at nc3
  have g3 : Gr s2 s3 := by rw [hs3]; exact Gr.push g2.1 _
  have z3 : s3.size = s2.size + 1 := by rw [hs3]; simp
  have hc3 : s3.get s2.size = some (.cells true [.int .i64 0, .int .i64 0]) := by rw [hs3]; exact St.get_push_same _ _
  obtain ⟨s4, hs4⟩ : ∃ s4, s4 = s3.set s2.size (.cells true [.int .i64 lv, .int .i64 ls]) := ⟨_, rfl⟩
  have st4 : aStore 2 (Z (.ptr s2.size 0)) (G2 lv ls) s3 = some (tt, s4) := by rw [hs4]; exact store2 hc3
  have hc4 : s4.get s2.size = some (.cells true [.int .i64 lv, .int .i64 ls]) := by rw [hs4]; exact St.get_set_same _ _ _
  have l0 : aLoad1 (Z (.ptr s2.size 0)) s4.get = some (I .i64 lv) := aLoad1_of hc4 rfl
  have l1 : aLoad1 (Z (.ptr s2.size 1)) s4.get = some (I .i64 ls) := aLoad1_of hc4 rfl
  have ld := load2 hc4
  have hc5 : s4.get s.size = some (.cells true [.int .i64 0, .int .i64 0]) := by
    rw [hs4, St.get_set_ne _ _ (by omega), g3.2.2 _ (by omega), g2.2.2 _ (by omega)]
    exact hc1
  have st5 := store2 (a := lv) (b := ls) hc5
  obtain ⟨s5, hs5⟩ : ∃ s5, s5 = s4.set s.size (.cells true [.int .i64 lv, .int .i64 ls]) := ⟨_, rfl⟩
  rw [← hs5] at st5
  have ld5 : aLoadN 2 (Z (.ptr s.size 0)) s5.get = some (G2 lv ls) := load2 (by rw [hs5]; exact St.get_set_same _ _ _)
  have z4 : s4.size = s3.size := by rw [hs4]; rfl
  have c0 : (n < 0) = False := eq_false (by omega)
  have c1 : (2 ≤ n) = False := eq_false (by omega)
  have c2 : (v < 0) = False := eq_false (by omega)
  refine ⟨s5, ?_, ?_⟩
  · have e2' : R (d + 5) 18 [Z (.ptr a 0)] s1 = some (G2 lv ls, s2) := e2
    generalize R (d + 5) = r at e2' ⊢
    by_cases q : ls = n
    · subst q
      simp [nc1, c0, c1, c2, e2', nc3, st4, l1, ld, st5, ld5, rC, rT, retT, allV]
    · have q1 : (ls = n) = False := eq_false q
      have q2 : (v < lv) = True := eq_true (by omega)
      simp [nc1, c0, c1, c2, e2', nc3, st4, l1, l0, q1, q2, ld, st5, ld5, rC, rT, retT, allV]
  · refine ⟨by rw [hs5]; exact St.wf_set (by rw [hs4]; exact St.wf_set g3.1 (by omega) _) (by omega) _, by rw [hs5]; simp; omega, fun b hb => ?_⟩
    rw [hs5, St.get_set_ne _ _ (by omega), hs4, St.get_set_ne _ _ (by omega), g3.2.2 _ (by omega), g2.2.2 _ (by omega)]
    exact g1.2.2 b hb

/-- A site that knows the last grant, which another one has. -/
theorem ask_new (d : Nat) (h : Ar K G s i m room f a x gs) (hl : gs.length ≤ 1000) {n v : Nat} (hn : n < 2) (hv : v < 1000) (h1 : (lastG gs).1 = v) (h2 : (lastG gs).2 ≠ n) (hlen : (enc gs).length ≤ 40000) (hroom : ((enc gs).length : Int) + 26 ≤ room) :
    ∃ t f' x', R (d + 6) 8 [Z (.ptr a 0), I .i64 n, I .i64 v] s = some (.tup [.agg [.int .i64 ((v + 1 : Nat) : Int), .int .i64 n], .s (.int .i64 0)], t) ∧ s.size ≤ t.size ∧ f'.fb = f.fb ∧ (∀ b, b < s.size → b ≠ f.fb → own f.x ≠ some b → b ≠ a → own x ≠ some b → t.get b = s.get b) ∧
      (∀ c, own f'.x = some c → own f.x = some c ∨ s.size ≤ c) ∧ (∀ c, own x' = some c → own x = some c ∨ s.size ≤ c) ∧ Ar K G t i m room f' a x' (gs ++ [(v + 1, n)]) := by
  rw [f8_run]
  unfold f8
  obtain ⟨s1, hs1⟩ : ∃ s1, s1 = s.push (.cells true [.int .i64 0, .int .i64 0]) := ⟨_, rfl⟩
  have nc1 := aNew_cells s [.int .i64 0, .int .i64 0]
  rw [← hs1] at nc1
  have g1 : Gr s s1 := by rw [hs1]; exact Gr.push h.dk.wf _
  have z1 : s1.size = s.size + 1 := by rw [hs1]; simp
  have hc1 : s1.get s.size = some (.cells true [.int .i64 0, .int .i64 0]) := by rw [hs1]; exact St.get_push_same _ _
  have a1 := h.gr g1
  obtain ⟨s2, e2, g2⟩ := last_run (d + 3) a1.dk.wf a1.ar a1.gs hl
  rw [h1] at e2
  generalize (lastG gs).2 = ls at e2 h2
  have a2 := a1.gr g2
  have z2 := g2.2.1
  obtain ⟨s3, hs3⟩ : ∃ s3, s3 = s2.push (.cells true [.int .i64 0, .int .i64 0]) := ⟨_, rfl⟩
  have nc3 := aNew_cells s2 [.int .i64 0, .int .i64 0]
  rw [← hs3] at nc3
  have g3 : Gr s2 s3 := by rw [hs3]; exact Gr.push g2.1 _
  have z3 : s3.size = s2.size + 1 := by rw [hs3]; simp
  have hc3 : s3.get s2.size = some (.cells true [.int .i64 0, .int .i64 0]) := by rw [hs3]; exact St.get_push_same _ _
  obtain ⟨s4, hs4⟩ : ∃ s4, s4 = s3.set s2.size (.cells true [.int .i64 v, .int .i64 ls]) := ⟨_, rfl⟩
  have st4 : aStore 2 (Z (.ptr s2.size 0)) (G2 v ls) s3 = some (tt, s4) := by rw [hs4]; exact store2 hc3
  have hc4 : s4.get s2.size = some (.cells true [.int .i64 v, .int .i64 ls]) := by rw [hs4]; exact St.get_set_same _ _ _
  have l0 : aLoad1 (Z (.ptr s2.size 0)) s4.get = some (I .i64 v) := aLoad1_of hc4 rfl
  have l1 : aLoad1 (Z (.ptr s2.size 1)) s4.get = some (I .i64 ls) := aLoad1_of hc4 rfl
  have g4 : Gr s2 s4 := ⟨by rw [hs4]; exact St.wf_set g3.1 (by omega) _, by rw [hs4]; simp; omega, fun b hb => by rw [hs4, St.get_set_ne _ _ (by omega)]; exact g3.2.2 b hb⟩
  have z4 : s4.size = s3.size := by rw [hs4]; rfl
  obtain ⟨s5, hs5⟩ : ∃ s5, s5 = s4.push (.cells true [.int .i64 0, .int .i64 0]) := ⟨_, rfl⟩
  have nc5 := aNew_cells s4 [.int .i64 0, .int .i64 0]
  rw [← hs5] at nc5
  have g5 : Gr s4 s5 := by rw [hs5]; exact Gr.push g4.1 _
  have z5 : s5.size = s4.size + 1 := by rw [hs5]; simp
  have hc5 : s5.get s4.size = some (.cells true [.int .i64 0, .int .i64 0]) := by rw [hs5]; exact St.get_push_same _ _
  obtain ⟨s6, hs6⟩ : ∃ s6, s6 = s5.set s4.size (.cells true [.int .i64 ((v + 1 : Nat) : Int), .int .i64 n]) := ⟨_, rfl⟩
  have st6 : aStore 2 (Z (.ptr s4.size 0)) (G2 ((v + 1 : Nat) : Int) n) s5 = some (tt, s6) := by rw [hs6]; exact store2 hc5
  have hc6 : s6.get s4.size = some (.cells true [.int .i64 ((v + 1 : Nat) : Int), .int .i64 n]) := by rw [hs6]; exact St.get_set_same _ _ _
  have ld6 := load2 hc6
  have g6 : Gr s4 s6 := ⟨by rw [hs6]; exact St.wf_set g5.1 (by omega) _, by rw [hs6]; simp; omega, fun b hb => by rw [hs6, St.get_set_ne _ _ (by omega)]; exact g5.2.2 b hb⟩
  have z6 : s6.size = s5.size := by rw [hs6]; rfl
  have hag := agg2 ((v + 1 : Nat) : Int) n
  have w1 : IntKind.i64.wrap ((v : Int) + 1) = ((v + 1 : Nat) : Int) := by rw [wrap_in _ (by omega) (by omega)]; omega
  obtain ⟨y7, s7, e7, F7⟩ := put_run (d + 2) g6.1 (v := v + 1) (n := n) (by omega) (by omega) hn
  have z7 := F7.gr.2.1
  have a7 := ((a2.gr g4).gr g6).gr F7.gr
  have la7 : aLoad1 (Z (.ptr a 0)) s7.get = some (Z (.ptr i 0)) := aLoad1_of a7.ar rfl
  have hmay : May f.nm := by rw [h.nm]; exact may_v
  obtain ⟨y8, s8, e8, oc8, g8, r8, o8⟩ := read_run (d + 2) a7.dk (k := 0) rfl hmay
  have z8 := g8.2.1
  have a8 := a7.gr g8
  have la8 : aLoad1 (Z (.ptr a 0)) s8.get = some (Z (.ptr i 0)) := aLoad1_of a8.ar rfl
  have hpl := putG_len (v + 1) n
  have hfl : f.l.length = (enc gs).length := by rw [h.fl, U_len]
  obtain ⟨x9, s9, e9, d9, z9, k9, o9⟩ := append_run (d + 2) a8.dk ⟨by simp [h.nm, views], by simp⟩ (k := 0) rfl hmay (y := y7) (xs := U (putG (v + 1) n)) ((F7.bs.rd).keep fun c hc => g8.2.2 c (F7.own c hc).2) (fun c hc => by have := (F7.own c hc).2; omega) (by simp [tot, hfl]; omega) (by simp; omega) (by simp; omega)
  simp only [List.set_cons_zero] at d9
  obtain ⟨s10, e10, d10, z10, k10⟩ := sync_run (d + 2) d9 (k := 0) rfl hmay
  simp only [List.set_cons_zero] at d10
  obtain ⟨b1, b2, b3, b4, b5, b6, b7⟩ := h.dk.fl 0 f rfl
  have hfb := h.dk.wf.lt b1
  have hal := h.dk.wf.lt h.ar
  have hil := h.dk.wf.lt h.dk.ri
  have hml := h.dk.wf.lt h.dk.mp
  have hxl : ∀ c, own f.x = some c → c < s.size := fun c hc => b2.lt h.dk.wf hc
  have hgl : ∀ c, own x = some c → c < s.size := fun c hc => h.gs.lt h.dk.wf hc
  -- what stays up to here
  have st10 : ∀ b, b < s8.size → b ≠ f.fb → own f.x ≠ some b → s10.get b = s8.get b := fun b hb q1 q2 => by rw [k10 b q1, k9 b hb q1 q2]
  have ar10 : s10.get a = some (.cells true [.ptr i 0, x]) := (st10 a (by omega) h.af.1 h.af.2).trans a8.ar
  have la10 : aLoad1 (Z (.ptr a 1)) s10.get = some (Z x) := aLoad1_of ar10 rfl
  have la9 : aLoad1 (Z (.ptr a 0)) s9.get = some (Z (.ptr i 0)) := aLoad1_of ((k9 a (by omega) h.af.1 h.af.2).trans a8.ar) rfl
  have gs10 : GS s10 x gs := a8.gs.keep fun c hc => by
    have := h.xf c hc
    have := hgl c hc
    exact st10 c (by omega) (by omega) (h.xf c hc).2.2.2.2
  have hc10 : s10.get s4.size = some (.cells true [.int .i64 ((v + 1 : Nat) : Int), .int .i64 n]) := by
    rw [st10 s4.size (by omega) (by omega) (fun e => by have := hxl _ e; omega), g8.2.2 _ (by omega), F7.gr.2.2 _ (by omega)]
    exact hc6
  have ld10 := load2 hc10
  have nl := lit2 s10 ((v + 1 : Nat) : Int) n
  obtain ⟨x11, s11, e11, wf11, z11, gs11, k11, o11⟩ := gs10.app d10.wf (by omega) (v + 1) n
  have hxa : own x ≠ some a := fun e => (h.xf a e).1 rfl
  have ar11 : s11.get a = some (.cells true [.ptr i 0, x]) := (k11 a (by omega) hxa).trans ar10
  obtain ⟨s12, hs12⟩ : ∃ s12, s12 = s11.set a (.cells true [.ptr i 0, x11]) := ⟨_, rfl⟩
  have st12 : aStore 1 (Z (.ptr a 1)) (Z x11) s11 = some (tt, s12) := by rw [hs12]; exact aStore1_of ar11 (by simp)
  have hc12 : s12.get s4.size = some (.cells true [.int .i64 ((v + 1 : Nat) : Int), .int .i64 n]) := by
    rw [hs12, St.get_set_ne _ _ (by omega), k11 _ (by omega) (fun e => by have := hgl _ e; omega)]
    exact hc10
  have ld12 := load2 hc12
  have hc13 : s12.get s.size = some (.cells true [.int .i64 0, .int .i64 0]) := by
    rw [hs12, St.get_set_ne _ _ (by omega), k11 _ (by omega) (fun e => by have := hgl _ e; omega), st10 s.size (by omega) (by omega) (fun e => by have := hxl _ e; omega), g8.2.2 _ (by omega), F7.gr.2.2 _ (by omega), g6.2.2 _ (by omega), g4.2.2 _ (by omega), g2.2.2 _ (by omega)]
    exact hc1
  have st13 := store2 (a := ((v + 1 : Nat) : Int)) (b := n) hc13
  obtain ⟨s13, hs13⟩ : ∃ s13, s13 = s12.set s.size (.cells true [.int .i64 ((v + 1 : Nat) : Int), .int .i64 n]) := ⟨_, rfl⟩
  rw [← hs13] at st13
  have ld13 : aLoadN 2 (Z (.ptr s.size 0)) s13.get = some (G2 ((v + 1 : Nat) : Int) n) := load2 (by rw [hs13]; exact St.get_set_same _ _ _)
  have z12 : s12.size = s11.size := by rw [hs12]; rfl
  have z13 : s13.size = s12.size := by rw [hs13]; rfl
  -- what stays to the end
  have k13 : ∀ b, b < s10.size → b ≠ s.size → b ≠ a → own x ≠ some b → s13.get b = s10.get b := fun b hb q1 q2 q3 => by
    rw [hs13, St.get_set_ne _ _ q1, hs12, St.get_set_ne _ _ q2, k11 b hb q3]
  have kall : ∀ b, b < s.size → b ≠ f.fb → own f.x ≠ some b → b ≠ a → own x ≠ some b → s13.get b = s.get b := fun b hb q1 q2 q3 q4 => by
    rw [k13 b (by omega) (by omega) q3 q4, st10 b (by omega) q1 q2, g8.2.2 b (by omega), F7.gr.2.2 b (by omega), g6.2.2 b (by omega), g4.2.2 b (by omega), g2.2.2 b (by omega)]
    exact g1.2.2 b hb
  have wf13 : s13.wf := by rw [hs13]; exact St.wf_set (by rw [hs12]; exact St.wf_set wf11 (by omega) _) (by omega) _
  have ox9 : ∀ c, own x9 = some c → own f.x = some c ∨ s8.size ≤ c := fun c hc => by
    rcases o9 with o | o | ⟨c', o, hc'⟩
    · rw [o] at hc; cases hc
    · rw [o] at hc; exact .inl hc
    · rw [o] at hc; cases hc; exact .inr hc'
  have ox9l : ∀ c, own x9 = some c → c < s9.size := fun c hc => (d9.fl 0 _ rfl).2.1.lt d9.wf hc
  have ox11 : ∀ c, own x11 = some c → own x = some c ∨ s10.size ≤ c := fun c hc => by
    rcases o11 with o | ⟨c', o, hc'⟩
    · rw [o] at hc; exact .inl hc
    · rw [o] at hc; cases hc; exact .inr hc'
  have nx9 : ∀ c, own x9 = some c → own x ≠ some c ∧ c ≠ a ∧ c ≠ s.size := fun c hc => by
    rcases ox9 c hc with o | o
    · have := hxl c o
      exact ⟨fun e => (h.xf c e).2.2.2.2 o, fun e => h.af.2 (by rw [← e]; exact o), by omega⟩
    · exact ⟨fun e => by have := hgl c e; omega, by omega, by omega⟩
  refine ⟨s13, ⟨f.nm, f.fb, x9, f.l ++ U (putG (v + 1) n), (f.l ++ U (putG (v + 1) n)).length⟩, x11, ?_, by omega, rfl, kall, fun c hc => ?_, fun c hc => ?_, ?_⟩
  · have e2' : R (d + 5) 18 [Z (.ptr a 0)] s1 = some (G2 v ls, s2) := e2
    have e7' : R (d + 5) 13 [G2 ((v + 1 : Nat) : Int) n] s6 = some (.tup [.s y7, .s (.int .i64 0)], s7) := e7
    rw [h.nm] at e8 e9 e10
    have cv : views = [118, 105, 101, 119, 115] := rfl
    rw [cv] at e8 e9 e10
    have c0 : ((n : Int) < 0) = False := eq_false (by omega)
    have c1 : (2 ≤ (n : Int)) = False := eq_false (by omega)
    have c2 : ((v : Int) < 0) = False := eq_false (by omega)
    have c3 : (ls = (n : Int)) = False := eq_false h2
    have c4 : (1073741824 ≤ (v : Int)) = False := eq_false (by omega)
    generalize ((v + 1 : Nat) : Int) = V1 at *
    generalize (v : Int) = V0 at *
    generalize (n : Int) = N0 at *
    generalize R (d + 5) = r at e2' e7' e8 e9 e10 ⊢
    simp [nc1, c0, c1, c2, e2', nc3, st4, l1, l0, c3, c4, w1, hag, nc5, st6, ld6, e7', aExtract, la7, e8, la8, e9, la9, e10, la10, ld10, nl, e11, st12, ld12, st13, ld13, rC, rT, retT, allV]
  · rcases ox9 c hc with o | o
    · exact .inl o
    · exact .inr (by omega)
  · rcases ox11 c hc with o | o
    · exact .inl o
    · exact .inr (by omega)
  · refine ⟨d10.keep1 wf13 (k13 i (by omega) (by omega) (fun e => h.ai.1 e.symm) (fun e => (h.xf i e).2.1 rfl)) (k13 m (by omega) (by omega) (fun e => h.ai.2 e.symm) (fun e => (h.xf m e).2.2.1 rfl)) (k13 f.fb (by omega) (by omega) (fun e => h.af.1 e.symm) (fun e => (h.xf _ e).2.2.2.1 rfl)) fun c hc => ?_, h.nm, ?_, rfl, ?_, ?_, ⟨h.af.1, fun e => ?_⟩, fun c hc => ?_, h.ai, fun b hb => ?_⟩
    · have q := nx9 c hc
      have := ox9l c hc
      exact k13 c (by omega) q.2.2 q.2.1 q.1
    · show f.l ++ U (putG (v + 1) n) = _
      rw [h.fl, enc_append, U_append]
      simp [enc]
    · rw [hs13, St.get_set_ne _ _ (by omega), hs12]
      exact St.get_set_same _ _ _
    · refine gs11.keep fun c hc => ?_
      have hcl := gs11.lt wf11 hc
      have q : c ≠ s.size ∧ c ≠ a := by
        rcases ox11 c hc with o | o
        · have := hgl c o
          exact ⟨by omega, (h.xf c o).1⟩
        · exact ⟨by omega, by omega⟩
      rw [hs13, St.get_set_ne _ _ q.1, hs12, St.get_set_ne _ _ q.2]
    · exact (nx9 a e).2.1 rfl
    · rcases ox11 c hc with o | o
      · have q := h.xf c o
        refine ⟨q.1, q.2.1, q.2.2.1, q.2.2.2.1, fun e => ?_⟩
        exact (nx9 c e).1 o
      · refine ⟨by omega, by omega, by omega, by show c ≠ f.fb; omega, fun e => ?_⟩
        have := ox9l c e
        omega
    · obtain ⟨k1, k2, k3, k4, k5, k6, k7, k8⟩ := h.kp b hb
      refine ⟨by omega, (kall b k1 k5 k7 k6 k8).trans k2, k3, k4, k5, k6, fun e => ?_, fun e => ?_⟩
      · rcases ox9 b e with o | o
        · exact k7 o
        · omega
      · rcases ox11 b e with o | o
        · exact k8 o
        · omega
end
end Go.Proofs.YtgecidicpdobfaaDoor
