/-
  ViewOnce returns true, whatever the asks. No conditions but those named in each line.
-/
import Derived.Test.YtgecidicpdobfaaDoorLaw
import Derived.Test.YtgecidicpdobfaaDoorAsks
namespace Go.Proofs.YtgecidicpdobfaaDoor
open Go Go.Abs Go.Abs.F
set_option linter.unusedVariables false

theorem row_load (rows : List (List S)) (hr : ∀ x ∈ rows, All2 KS [.int .i64] x) {j : Nat} (hj : j < rows.length) : ∃ x : Int, ∀ s : St, s.get 0 = some (argBlk rows.flatten) → aLoad1 (Z (.ptr 0 j)) s.get = some (I .i64 x) := by
  have hq : rows[j]? = some rows[j] := List.getElem?_eq_getElem hj
  obtain ⟨ns, hn, hl, _⟩ := ints_of (ks := [.i64]) (hr _ (List.mem_of_getElem? hq))
  match ns, hl with
  | [x], _ =>
    have he : ∀ r ∈ rows, r.length = 1 := fun r hr' => (forall2_length (hr r hr')).symm
    refine ⟨x, fun s hs => argBlk_load hs ?_⟩
    have := rows_get he j 0 _ hq (by omega)
    rw [Nat.add_zero, Nat.mul_one] at this
    rw [this, hn]
    rfl

theorem ne2' (a b c d : Int) : neB (.a 2 [(0, .i), (1, .i)]) (G2 a b) (G2 c d) = some (B (!(decide (a = c) && decide (b = d)))) := by
  simp [neB, aEq, aEqL, leafEq]

def KK (L : Nat) : Nat → Prop := fun b => b = 0 ∨ b = L

section
variable {a0 : T} {rows : List (List S)}

/-- Between two rounds. -/
def InV (a0 : T) (rows : List (List S)) (i m L : Nat) (k : Nat) (v : List T) (s : St) : Prop :=
  ∃ (gs : List (Nat × Nat)) (f : Fl) (a : Nat) (x : S) (G : Nat → Option Blk) (j : Nat), k + j = 60 ∧ v = [a0, Z (.ptr i 0), Z (.ptr a 0), Z (.ptr L 0), I .i64 j] ∧ Ar (KK L) G s i m 10000 f a x gs ∧
    G 0 = some (argBlk rows.flatten) ∧ G L = some (.cells true [.int .i64 (lastG gs).1, .int .i64 (lastG gs).2]) ∧ Good gs ∧ gs.length ≤ j

theorem Ar.rek {K K' : Nat → Prop} {G G' : Nat → Option Blk} {s : St} {i m a : Nat} {room : Int} {f : Fl} {x : S} {gs : List (Nat × Nat)} (h : Ar K G s i m room f a x gs)
    (hk : ∀ b, K' b → b < s.size ∧ s.get b = G' b ∧ b ≠ i ∧ b ≠ m ∧ b ≠ f.fb ∧ b ≠ a ∧ own f.x ≠ some b ∧ own x ≠ some b) : Ar K' G' s i m room f a x gs :=
  ⟨h.dk, h.nm, h.fl, h.sure, h.ar, h.gs, h.af, h.xf, h.ai, hk⟩

theorem once_step (hr : ∀ x ∈ rows, All2 KS [.int .i64] x) (ha0 : SlOf a0 0 rows) {i m L : Nat} (hL : L ≠ 0) (r : CallF) (hrr : r = R 7) :
    ∀ k v s, InV a0 rows i m L k v s → (∃ v' s' k', f5_l1 r 512 v s = some (.normal v', s') ∧ k = k' + 1 ∧ InV a0 rows i m L k' v' s') ∨
      ∃ j s', f5_l1 r 512 v s = some (j, s') ∧ (∀ v, j ≠ .normal v) ∧ ∃ (gs : List (Nat × Nat)) (f : Fl) (a : Nat) (x : S) (G : Nat → Option Blk), j = .exit 0 [Z (.ptr a 0), Z (.ptr L 0)] ∧ Ar (KK L) G s' i m 10000 f a x gs ∧
        G L = some (.cells true [.int .i64 (lastG gs).1, .int .i64 (lastG gs).2]) ∧ Good gs ∧ gs.length ≤ 60 := by
  rintro k v s ⟨gs, f, a, x, G, j, hk, rfl, hA, hG0, hGL, hgood, hgj⟩
  have hlen := ha0.len
  have hlast := hgood.last
  obtain ⟨k1, k2, k3, k4, k5, k6, k7, k8⟩ := hA.kp L (.inr rfl)
  obtain ⟨q1, q2, q3, q4, q5, q6, q7, q8⟩ := hA.kp 0 (.inl rfl)
  by_cases hgo : j < rows.length ∧ j < 60
  · left
    have c0 : ((j : Int) < (rows.length : Int)) = True := eq_true (by omega)
    have c1 : ((j : Int) < 60) = True := eq_true (by omega)
    have w1 : IntKind.i64.wrap ((j : Int) + 1) = ((j + 1 : Nat) : Int) := by rw [wrap_in _ (by omega) (by omega)]; omega
    obtain ⟨n, hn⟩ := row_load rows hr hgo.1
    have ix : aIndexSl 1 a0 (I .i64 j) = some (Z (.ptr 0 j)) := by rw [ha0.index (k := .i64) rfl hgo.1, Nat.mul_one]
    have ld := hn s (q2.trans hG0)
    obtain ⟨X, hX⟩ : ∃ X, X = IntKind.u64.wrap n := ⟨_, rfl⟩
    have hX0 : 0 ≤ X := by rw [hX]; exact wrap_u64 n
    have hX1 : X < 2 ^ 64 := by
      rw [hX]
      unfold IntKind.wrap
      simp [IntKind.signed, IntKind.bits]
      omega
    have hrem : aBin .rem (I .u64 X) (I .u64 7) = some (I .u64 (X.tmod 7)) := rem_int _ _ _ (by omega)
    have hY0 := Int.tmod_nonneg 7 hX0
    have hY1 := Int.tmod_lt_of_pos X (show (0 : Int) < 7 by omega)
    have hle := hgood.enc_len (by omega)
    by_cases hY : X.tmod 7 = 6
    · -- a crash
      have c2 : (X.tmod 7 = 6) = True := eq_true hY
      obtain ⟨x2, s2, e2, d2, z2, fr2, o2⟩ := crash_run 5 hA.dk (by rw [hA.nm]; simp [views]) (y := .nils) (n := 0) (.inl ⟨rfl, rfl⟩) (by rw [hA.sure]; exact Nat.le_refl _)
      have htk : f.l.take (f.sure + 0) = f.l := List.take_of_length_le (by rw [hA.sure]; exact Nat.le_refl _)
      rw [htk] at d2
      obtain ⟨s3, x3, y3, e3, z3, fr3, o3, oy3, A3⟩ := open_file 1 d2 hA.nm hA.fl (by rw [hle]; omega) (hgood.parse (by omega)) rfl
      have hfr : ∀ b, b < s.size → b ≠ f.fb → s3.get b = s.get b := fun b hb hb1 => by rw [fr3 b (by omega) hb1, fr2 b hb hb1]
      obtain ⟨b1, b2, b3, b4, b5, b6, b7⟩ := hA.dk.fl 0 f rfl
      have ho3 : ∀ c, own x3 = some c → own f.x = some c := fun c hc => by
        rcases o3 with o | o
        · rw [o] at hc; cases hc
        · rw [o] at hc
          rcases o2 with o' | o'
          · have h' : own x2 = some c := hc
            rw [o'] at h'; cases h'
          · have h' : own x2 = some c := hc
            rw [o'] at h'; exact h'
      have A3' : Ar (KK L) G s3 i m 10000 { f with x := x3, l := f.l, sure := f.l.length } (s3.size - 1) y3 gs := A3.rek fun b hb => by
        have hb' := hA.kp b hb
        refine ⟨by omega, (hfr b hb'.1 hb'.2.2.2.2.1).trans hb'.2.1, hb'.2.2.1, hb'.2.2.2.1, hb'.2.2.2.2.1, by omega, fun e => hb'.2.2.2.2.2.2.1 (ho3 b e), fun e => ?_⟩
        have := oy3 b e
        omega
      have hal := hA.dk.wf.lt hA.ar
      have old3 : s3.get a = some (.cells true [.ptr i 0, x]) := (hfr a hal hA.af.1).trans hA.ar
      have oldgs : GS s3 x gs := hA.gs.keep fun c hc => hfr c (hA.gs.lt hA.dk.wf hc) (hA.xf c hc).2.2.2.1
      have hL3 : s3.get L = some (.cells true [.int .i64 (lastG gs).1, .int .i64 (lastG gs).2]) := (A3'.kp L (.inr rfl)).2.1.trans hGL
      have ldL3 := load2 hL3
      obtain ⟨s4, e4, g4⟩ := last_run 5 A3'.dk.wf A3'.ar A3'.gs (by omega)
      have hL4 : s4.get L = some (.cells true [.int .i64 (lastG gs).1, .int .i64 (lastG gs).2]) := (g4.2.2 L (by omega)).trans hL3
      have ldL4 := load2 hL4
      have ne := ne2 (lastG gs).1 (lastG gs).2
      obtain ⟨y5, s5, e5, g5, hy5⟩ := all_run 5 g4.1 ((g4.2.2 a (by omega)).trans old3) (oldgs.keep fun c hc => g4.2.2 c (by have := hA.gs.lt hA.dk.wf hc; omega)) (by omega)
      have A5 := (A3'.gr g4).gr g5
      obtain ⟨y6, s6, e6, g6, hy6⟩ := all_run 5 A5.dk.wf A5.ar A5.gs (by omega)
      have A6 := A5.gr g6
      have e7 := grants_run (s := s6) 6 (hy5.keep fun c hc => g6.2.2 c (hy5.lt A5.dk.wf hc)) hy6 (by omega)
      refine ⟨[a0, Z (.ptr i 0), Z (.ptr (s3.size - 1) 0), Z (.ptr L 0), I .i64 ((j + 1 : Nat) : Int)], s6, k - 1, ?_, by omega, gs, _, s3.size - 1, y3, G, j + 1, by omega, rfl, A6, hG0, hGL, hgood, by omega⟩
      have e3' : R 7 7 [Z (.ptr i 0)] s2 = some (.tup [.s (.ptr (s3.size - 1) 0), .s (.int .i64 0)], s3) := e3
      simp only [Nat.reduceAdd] at e2 e4 e5 e6 e7
      rw [← hrr] at e2 e3' e4 e5 e6 e7
      generalize ((j + 1 : Nat) : Int) = J1 at w1 ⊢
      generalize (j : Int) = J at *
      generalize (lastG gs).1 = LV at *
      generalize (lastG gs).2 = LS at *
      generalize s3.size - 1 = A at *
      unfold f5_l1
      rw [hX] at hrem c2
      simp [hlen, c0, c1, ix, ld, hrem, c2, e2, e3', aExtract, e4, ldL4, ne, e5, e6, e7, ldL3, w1, wq]
    · have c2 : (X.tmod 7 = 6) = False := eq_false hY
      have hquo : aBin .quo (I .u64 X) (I .u64 7) = some (I .u64 (IntKind.u64.wrap (X.tdiv 7))) := quo_int _ _ _ (by omega)
      obtain ⟨q, hq0, hq1, hq, hqi, _⟩ := mod_u (X.tdiv 7) 2 (by omega) (by omega)
      obtain ⟨n', hn', rfl⟩ := nat_of (n := 2) hq0 (by omega)
      obtain ⟨lv, hlv⟩ : ∃ lv, lv = gs.length := ⟨_, rfl⟩
      have h1 : (lastG gs).1 = (lv : Int) := by rw [hlast.1, hlv]
      have ldL0 : aLoad1 (Z (.ptr L 0)) s.get = some (I .i64 (lv : Int)) := by rw [← h1]; exact aLoad1_of (k2.trans hGL) rfl
      have wsub : IntKind.i64.wrap ((lv : Int) - 1) = (lv : Int) - 1 := wrap_in _ (by omega) (by omega)
      -- what the site knows
      obtain ⟨kn, hkn, hkv⟩ : ∃ kn : Int, kn = (if X.tmod 7 < 2 then max 0 ((lv : Int) - 1) else lv) ∧ 0 ≤ kn ∧ kn ≤ lv := by
        refine ⟨_, rfl, ?_⟩
        split <;> omega
      by_cases hold : (lastG gs).2 = (n' : Int) ∨ kn < (lastG gs).1
      · obtain ⟨s2, e2, g2⟩ := ask_old 1 hA (by omega) (n := (n' : Int)) (v := kn) (by omega) hkv.1 hold
        have A2 := hA.gr g2
        obtain ⟨s3, hs3⟩ : ∃ s3, s3 = s2.push (.cells true [.int .i64 0, .int .i64 0]) := ⟨_, rfl⟩
        have nc3 := aNew_cells s2 [.int .i64 0, .int .i64 0]
        rw [← hs3] at nc3
        have g3 : Gr s2 s3 := by rw [hs3]; exact Gr.push g2.1 _
        have z2 := g2.2.1
        have hc3 : s3.get s2.size = some (.cells true [.int .i64 0, .int .i64 0]) := by rw [hs3]; exact St.get_push_same _ _
        obtain ⟨s4, hs4⟩ : ∃ s4, s4 = s3.set s2.size (.cells true [.int .i64 (lastG gs).1, .int .i64 (lastG gs).2]) := ⟨_, rfl⟩
        have st4 : aStore 2 (Z (.ptr s2.size 0)) (G2 (lastG gs).1 (lastG gs).2) s3 = some (tt, s4) := by rw [hs4]; exact store2 hc3
        have hc4 : s4.get s2.size = some (.cells true [.int .i64 (lastG gs).1, .int .i64 (lastG gs).2]) := by rw [hs4]; exact St.get_set_same _ _ _
        have z3 : s3.size = s2.size + 1 := by rw [hs3]; simp
        have g4 : Gr s2 s4 := ⟨by rw [hs4]; exact St.wf_set g3.1 (by omega) _, by rw [hs4]; simp; omega, fun b hb => by rw [hs4, St.get_set_ne _ _ (by omega)]; exact g3.2.2 b hb⟩
        have A4 := A2.gr g4
        have hL4 : s4.get L = some (.cells true [.int .i64 (lastG gs).1, .int .i64 (lastG gs).2]) := (A4.kp L (.inr rfl)).2.1.trans hGL
        have ld1 := load2 hc4
        have ld2 := load2 hL4
        have ld3 : aLoad1 (Z (.ptr s2.size 0)) s4.get = some (I .i64 (lastG gs).1) := aLoad1_of hc4 rfl
        have ld4 : aLoad1 (Z (.ptr L 0)) s4.get = some (I .i64 (lastG gs).1) := aLoad1_of hL4 rfl
        have st5 := store2 (a := (lastG gs).1) (b := (lastG gs).2) hL4
        have A5 := A4.set (L := L) (.inr rfl) (.cells true [.int .i64 (lastG gs).1, .int .i64 (lastG gs).2])
        have ne := ne2 (lastG gs).1 (lastG gs).2
        refine ⟨[a0, Z (.ptr i 0), Z (.ptr a 0), Z (.ptr L 0), I .i64 ((j + 1 : Nat) : Int)], _, k - 1, ?_, by omega, gs, f, a, x, _, j + 1, by omega, rfl, A5, by show (if 0 = L then _ else _) = _; rw [if_neg (Ne.symm hL)]; exact hG0, by show (if L = L then _ else _) = _; rw [if_pos rfl], hgood, by omega⟩
        have e2' : R 7 8 [Z (.ptr a 0), I .i64 n', I .i64 kn] s = some (.tup [.agg [.int .i64 (lastG gs).1, .int .i64 (lastG gs).2], .s (.int .i64 0)], s2) := e2
        rw [← hrr] at e2'
        rw [h1] at *
        generalize (lastG gs).2 = LS at *
        generalize ((j + 1 : Nat) : Int) = J1 at w1 ⊢
        generalize (j : Int) = J at *
        generalize (lv : Int) = LV at *
        generalize (n' : Int) = N1 at *
        unfold f5_l1
        rw [hX] at hrem c2 hquo hq hkn
        by_cases hk2 : (IntKind.u64.wrap n).tmod 7 < 2
        · rw [if_pos hk2] at hkn
          subst hkn
          have hk2' : ((IntKind.u64.wrap n).tmod 7 < 2) = True := eq_true hk2
          simp [hlen, c0, c1, ix, ld, hrem, c2, hquo, hq, hqi, ldL0, hk2', wsub, e2', aExtract, nc3, st4, ld3, ld4, ld1, ld2, ne, st5, w1]
        · rw [if_neg hk2] at hkn
          subst hkn
          have hk2' : ((IntKind.u64.wrap n).tmod 7 < 2) = False := eq_false hk2
          simp [hlen, c0, c1, ix, ld, hrem, c2, hquo, hq, hqi, ldL0, hk2', e2', aExtract, nc3, st4, ld3, ld4, ld1, ld2, ne, st5, w1]
      · have hne : (lastG gs).2 ≠ (n' : Int) := fun e => hold (.inl e)
        have hkl : kn = (lv : Int) := by
          have : ¬ kn < (lastG gs).1 := fun e => hold (.inr e)
          rw [h1] at this
          omega
        obtain ⟨s2, f2, x2, e2, z2, hfb2, fr2, of2, ox2, A2⟩ := ask_new 1 hA (by omega) (n := n') (v := lv) hn' (by omega) h1 hne (by omega) (by omega)
        rw [hlv] at A2
        have hgood2 := hgood.more hn' hne
        obtain ⟨s3, hs3⟩ : ∃ s3, s3 = s2.push (.cells true [.int .i64 0, .int .i64 0]) := ⟨_, rfl⟩
        have nc3 := aNew_cells s2 [.int .i64 0, .int .i64 0]
        rw [← hs3] at nc3
        have g3 : Gr s2 s3 := by rw [hs3]; exact Gr.push A2.dk.wf _
        have hc3 : s3.get s2.size = some (.cells true [.int .i64 0, .int .i64 0]) := by rw [hs3]; exact St.get_push_same _ _
        obtain ⟨s4, hs4⟩ : ∃ s4, s4 = s3.set s2.size (.cells true [.int .i64 ((lv + 1 : Nat) : Int), .int .i64 n']) := ⟨_, rfl⟩
        have st4 : aStore 2 (Z (.ptr s2.size 0)) (G2 ((lv + 1 : Nat) : Int) n') s3 = some (tt, s4) := by rw [hs4]; exact store2 hc3
        have hc4 : s4.get s2.size = some (.cells true [.int .i64 ((lv + 1 : Nat) : Int), .int .i64 n']) := by rw [hs4]; exact St.get_set_same _ _ _
        have z3 : s3.size = s2.size + 1 := by rw [hs3]; simp
        have g4 : Gr s2 s4 := ⟨by rw [hs4]; exact St.wf_set g3.1 (by omega) _, by rw [hs4]; simp; omega, fun b hb => by rw [hs4, St.get_set_ne _ _ (by omega)]; exact g3.2.2 b hb⟩
        have A4 := A2.gr g4
        have hL4 : s4.get L = some (.cells true [.int .i64 (lastG gs).1, .int .i64 (lastG gs).2]) := (A4.kp L (.inr rfl)).2.1.trans hGL
        have ld1 := load2 hc4
        have ld2 := load2 hL4
        have ld3 : aLoad1 (Z (.ptr s2.size 0)) s4.get = some (I .i64 ((lv + 1 : Nat) : Int)) := aLoad1_of hc4 rfl
        have ld5 : aLoad1 (Z (.ptr s2.size 1)) s4.get = some (I .i64 (n' : Int)) := aLoad1_of hc4 rfl
        have ld4 : aLoad1 (Z (.ptr L 0)) s4.get = some (I .i64 (lastG gs).1) := aLoad1_of hL4 rfl
        have st5 := store2 (a := ((lv + 1 : Nat) : Int)) (b := n') hL4
        have A5 := A4.set (L := L) (.inr rfl) (.cells true [.int .i64 ((lv + 1 : Nat) : Int), .int .i64 n'])
        have hnl : lastG (gs ++ [(gs.length + 1, n')]) = (((lv + 1 : Nat) : Int), (n' : Int)) := by
          rw [hlv]
          exact lastG_at (g := (gs.length + 1, n')) (by simp)
        have wadd : IntKind.i64.wrap ((lv : Int) + 1) = ((lv + 1 : Nat) : Int) := by rw [wrap_in _ (by omega) (by omega)]; omega
        refine ⟨[a0, Z (.ptr i 0), Z (.ptr a 0), Z (.ptr L 0), I .i64 ((j + 1 : Nat) : Int)], _, k - 1, ?_, by omega, gs ++ [(gs.length + 1, n')], f2, a, x2, _, j + 1, by omega, rfl, A5, by show (if 0 = L then _ else _) = _; rw [if_neg (Ne.symm hL)]; exact hG0, by show (if L = L then _ else _) = _; rw [if_pos rfl, hnl], hgood2, by simp; omega⟩
        have e2' : R 7 8 [Z (.ptr a 0), I .i64 n', I .i64 lv] s = some (.tup [.agg [.int .i64 ((lv + 1 : Nat) : Int), .int .i64 n'], .s (.int .i64 0)], s2) := e2
        rw [← hrr] at e2'
        have c3 : (((lv + 1 : Nat) : Int) < (lv : Int)) = False := eq_false (by omega)
        have c4 : (((lv + 1 : Nat) : Int) = (lv : Int)) = False := eq_false (by omega)
        have c5 : ((lv : Int) < ((lv + 1 : Nat) : Int)) = True := eq_true (by omega)
        rw [h1] at ld4
        generalize ((j + 1 : Nat) : Int) = J1 at w1 ⊢
        generalize (j : Int) = J at *
        generalize ((lv + 1 : Nat) : Int) = LV1 at *
        generalize (lv : Int) = LV at *
        generalize (n' : Int) = N1 at *
        subst hkl
        unfold f5_l1
        rw [hX] at hrem c2 hquo hq hkn
        by_cases hk2 : (IntKind.u64.wrap n).tmod 7 < 2
        · rw [if_pos hk2] at hkn
          have hk2' : ((IntKind.u64.wrap n).tmod 7 < 2) = True := eq_true hk2
          simp [hlen, c0, c1, ix, ld, hrem, c2, hquo, hq, hqi, ldL0, hk2', wsub, ← hkn, e2', aExtract, nc3, st4, ld3, ld4, ld5, c3, c4, c5, wadd, ld1, ld2, st5, w1]
        · have hk2' : ((IntKind.u64.wrap n).tmod 7 < 2) = False := eq_false hk2
          simp [hlen, c0, c1, ix, ld, hrem, c2, hquo, hq, hqi, ldL0, hk2', e2', aExtract, nc3, st4, ld3, ld4, ld5, c3, c4, c5, wadd, ld1, ld2, st5, w1]
  · right
    refine ⟨.exit 0 [Z (.ptr a 0), Z (.ptr L 0)], s, ?_, (fun v hv => by cases hv), gs, f, a, x, G, rfl, hA, hGL, hgood, by omega⟩
    unfold f5_l1
    by_cases c0 : (j : Int) < (rows.length : Int)
    · have c1 : ¬ (j : Int) < 60 := by omega
      simp [hlen, c0, c1]
    · simp [hlen, c0]

theorem once_loop2 (r : CallF) {s : St} {y v0 v1 : T} {z : S} {gs : List (Nat × Nat)} (h : GS s z gs) (hgood : Good gs) (hl : gs.length ≤ 100) :
    loops (f5_l2 r 512) 512 [v0, v1, Z z, I .i64 1] s = some (.exit 2 [v0, v1], s) := by
  have hll := h.len
  obtain ⟨j, τ, lp, rfl, rfl⟩ := loops_inv (f := f5_l2 r 512) (fun q v u => ∃ i : Nat, q + i = 200 ∧ 1 ≤ i ∧ v = [v0, v1, Z z, I .i64 i] ∧ u = s) (fun j u => j = .exit 2 [v0, v1] ∧ u = s) (by
    rintro q v u ⟨i, hi, hi1, rfl, rfl⟩
    by_cases hil : i < gs.length
    · left
      obtain ⟨g, hg⟩ : ∃ g, gs[i]? = some g := ⟨_, List.getElem?_eq_getElem hil⟩
      obtain ⟨g', hg'⟩ : ∃ g', gs[i - 1]? = some g' := ⟨_, List.getElem?_eq_getElem (by omega)⟩
      have a1 := hgood.at_ _ _ hg
      have a2 := hgood.at_ _ _ hg'
      have a3 := hgood.turn (i - 1) _ _ hg' (by rw [show i - 1 + 1 = i by omega]; exact hg)
      rcases h with ⟨_, rfl⟩ | ⟨b, rows, rfl, h0, h1, h2, h3⟩
      · simp at hil
      have ix : aIndexSl 2 (Z (.sl b 0 gs.length (.grown 2))) (I .i64 (i : Int)) = some (Z (.ptr b (i * 2))) := by rw [aIndexSl_int rfl hil, Nat.zero_add]
      have ix' : aIndexSl 2 (Z (.sl b 0 gs.length (.grown 2))) (I .i64 ((i : Int) - 1)) = some (Z (.ptr b ((i - 1) * 2))) := by rw [aIndexSl_int (j := i - 1) (by omega) (by omega), Nat.zero_add]
      obtain ⟨r1, r2⟩ := cG_get gs i _ hg
      obtain ⟨r1', r2'⟩ := cG_get gs (i - 1) _ hg'
      rw [← h3, List.getElem?_take_of_lt (by omega), Nat.mul_comm] at r1 r1'
      rw [← h3, List.getElem?_take_of_lt (by omega), Nat.mul_comm] at r2 r2'
      have l1 : aLoad1 (Z (.ptr b (i * 2))) u.get = some (I .i64 (g.1 : Nat)) := aLoad1_of h1 r1
      have l2 : aLoad1 (Z (.ptr b (i * 2 + 1))) u.get = some (I .i64 (g.2 : Nat)) := aLoad1_of h1 r2
      have l1' : aLoad1 (Z (.ptr b ((i - 1) * 2))) u.get = some (I .i64 (g'.1 : Nat)) := aLoad1_of h1 r1'
      have l2' : aLoad1 (Z (.ptr b ((i - 1) * 2 + 1))) u.get = some (I .i64 (g'.2 : Nat)) := aLoad1_of h1 r2'
      have w1 : IntKind.i64.wrap ((i : Int) + 1) = ((i + 1 : Nat) : Int) := by rw [wrap_in _ (by omega) (by omega)]; omega
      have w2 : IntKind.i64.wrap ((i : Int) - 1) = (i : Int) - 1 := wrap_in _ (by omega) (by omega)
      have c0 : ((i : Int) < (gs.length : Int)) = True := eq_true (by omega)
      have c1 : ((g.1 : Int) ≤ (g'.1 : Int)) = False := eq_false (by omega)
      have c2 : ((g.2 : Int) = (g'.2 : Int)) = False := eq_false (by omega)
      refine ⟨[v0, v1, Z (.sl b 0 gs.length (.grown 2)), I .i64 ((i + 1 : Nat) : Int)], u, q - 1, ?_, by omega, i + 1, by omega, by omega, rfl, rfl⟩
      unfold f5_l2
      generalize ((i + 1 : Nat) : Int) = K1 at w1 ⊢
      generalize (g.1 : Int) = P1 at *
      generalize (g.2 : Int) = P2 at *
      generalize (g'.1 : Int) = P3 at *
      generalize (g'.2 : Int) = P4 at *
      simp [c0, ix, ix', l1, l2, l1', l2', c1, c2, w1, w2]
    · right
      have c0 : ¬ ((i : Int) < (gs.length : Int)) := by omega
      refine ⟨.exit 2 [v0, v1], u, ?_, (fun v hv => by cases hv), rfl, rfl⟩
      unfold f5_l2
      simp [hll, c0]) 512 199 [v0, v1, Z z, I .i64 1] s ⟨1, rfl, Nat.le_refl _, rfl, rfl⟩ (by omega)
  exact lp

theorem once_run (hr : ∀ x ∈ rows, All2 KS [.int .i64] x) (ha0 : SlOf a0 0 rows) : ∃ τ, R 8 5 [a0] (St.empty.push (argBlk rows.flatten)) = some (B true, τ) := by
  obtain ⟨s0, hs0⟩ : ∃ s0, s0 = St.empty.push (argBlk rows.flatten) := ⟨_, rfl⟩
  have wf0 : s0.wf := by rw [hs0]; exact St.wf_push St.wf_empty _
  have z0 : s0.size = 1 := by rw [hs0]; simp
  have hg0 : s0.get 0 = some (argBlk rows.flatten) := by rw [hs0]; exact St.get_push_same St.empty _
  rw [← hs0, f5_run]
  unfold f5
  obtain ⟨s1, e1, d1, g1⟩ := new_run (room := 10000) 6 wf0 (by omega) (by omega)
  obtain ⟨i, hi⟩ : ∃ i, i = s0.size + 1 := ⟨_, rfl⟩
  obtain ⟨m, hm⟩ : ∃ m, m = s0.size := ⟨_, rfl⟩
  rw [← hi] at e1 d1
  rw [← hm] at d1
  obtain ⟨s2, f, e2, z2, fr2, hfb, hfl, hfx, A2⟩ := open_new 1 d1 (by omega)
  have z1 := g1.2.1
  obtain ⟨s3, hs3⟩ : ∃ s3, s3 = s2.push (.cells true [.int .i64 0, .int .i64 0]) := ⟨_, rfl⟩
  have nc3 := aNew_cells s2 [.int .i64 0, .int .i64 0]
  rw [← hs3] at nc3
  have g3 : Gr s2 s3 := by rw [hs3]; exact Gr.push A2.dk.wf _
  have hc3 : s3.get s2.size = some (.cells true [.int .i64 0, .int .i64 0]) := by rw [hs3]; exact St.get_push_same _ _
  have st4 := store2 (a := 0) (b := -1) hc3
  obtain ⟨s4, hs4⟩ : ∃ s4, s4 = s3.set s2.size (.cells true [.int .i64 0, .int .i64 (-1)]) := ⟨_, rfl⟩
  rw [← hs4] at st4
  have z3 : s3.size = s2.size + 1 := by rw [hs3]; simp
  have g4 : Gr s2 s4 := ⟨by rw [hs4]; exact St.wf_set g3.1 (by omega) _, by rw [hs4]; simp; omega, fun b hb => by rw [hs4, St.get_set_ne _ _ (by omega)]; exact g3.2.2 b hb⟩
  have hc4 : s4.get s2.size = some (.cells true [.int .i64 0, .int .i64 (-1)]) := by rw [hs4]; exact St.get_set_same _ _ _
  have z4 : s4.size = s3.size := by rw [hs4]; rfl
  have hlA := A2.dk.wf.lt A2.ar
  have hil := d1.wf.lt d1.ri
  have hml := d1.wf.lt d1.mp
  have A4 : Ar (KK s2.size) s4.get s4 i m 10000 f (s2.size - 1) .nils [] := (A2.gr g4).rek fun b hb => by
    have hox : own (.nils : S) ≠ some b := by simp [own]
    rcases hb with rfl | rfl
    · exact ⟨by omega, rfl, by omega, by omega, by omega, by omega, fun e => by have := hfx _ e; omega, hox⟩
    · refine ⟨by omega, rfl, by omega, by omega, by omega, by omega, fun e => ?_, hox⟩
      have := (A2.dk.fl 0 f rfl).2.1.lt A2.dk.wf e
      omega
  have h40 : s4.get 0 = some (argBlk rows.flatten) := by
    rw [g4.2.2 0 (by omega), fr2 0 (by omega) (by omega), g1.2.2 0 (by omega)]
    exact hg0
  obtain ⟨j, s5, lp, gs, f5', a, x, G, rfl, A5, hGL, hgood, hgl⟩ := loops_inv (f := f5_l1 (R 7) 512) (InV a0 rows i m s2.size) (fun j u => ∃ (gs : List (Nat × Nat)) (f : Fl) (a : Nat) (x : S) (G : Nat → Option Blk), j = .exit 0 [Z (.ptr a 0), Z (.ptr s2.size 0)] ∧ Ar (KK s2.size) G u i m 10000 f a x gs ∧
        G s2.size = some (.cells true [.int .i64 (lastG gs).1, .int .i64 (lastG gs).2]) ∧ Good gs ∧ gs.length ≤ 60) (once_step hr ha0 (by omega) (R 7) rfl) 512 60 [a0, Z (.ptr i 0), Z (.ptr (s2.size - 1) 0), Z (.ptr s2.size 0), I .i64 0] s4
    ⟨[], f, s2.size - 1, .nils, s4.get, 0, rfl, rfl, A4, h40, hc4, Good.nil, Nat.le_refl _⟩ (by omega)
  obtain ⟨y6, s6, e6, g6, hy6⟩ := all_run 5 A5.dk.wf A5.ar A5.gs (by omega)
  have A6 := A5.gr g6
  have lp2 := once_loop2 (R 7) (y := .any) (v0 := Z (.ptr a 0)) (v1 := Z (.ptr s2.size 0)) hy6 hgood (by omega)
  have e7 := told_run 6 s6
  obtain ⟨s8, e8, g8⟩ := last_run 5 A6.dk.wf A6.ar A6.gs (by omega)
  have k6 := A6.kp s2.size (.inr rfl)
  have ld6 := load2 (k6.2.1.trans hGL)
  have ld8 := load2 ((g8.2.2 s2.size k6.1).trans (k6.2.1.trans hGL))
  have eq : eqB (.a 2 [(0, .i), (1, .i)]) (G2 (lastG gs).1 (lastG gs).2) (G2 (lastG gs).1 (lastG gs).2) = some (B true) := by
    simp [eqB, aEq, aEqL, leafEq]
  have ag : asAggT (aFill [.int .i64 0, .int .i64 0] [(1, 1, (I .i64 (-1)))]) = some (G2 0 (-1)) := rfl
  have e2' : R 7 7 [Z (.ptr i 0)] s1 = some (.tup [.s (.ptr (s2.size - 1) 0), .s (.int .i64 0)], s2) := e2
  simp only [Nat.reduceAdd] at e1 e6 e7 e8
  refine ⟨s8, ?_⟩
  generalize (lastG gs).1 = LV at *
  generalize (lastG gs).2 = LS at *
  generalize R 7 = r at e1 e2' lp lp2 e6 e7 e8 ⊢
  simp [e1, e2', aExtract, ag, nc3, st4, lp, e6, lp2, e7, e8, ld8, ld6, eq, wq]
end
end Go.Proofs.YtgecidicpdobfaaDoor
