/-
  ViewSpoilt returns true, whatever the numbers and the byte. No conditions but those named in each line.
-/
import Derived.Test.YtgecidicpdobfaaDoorSpoil
import Derived.Test.YtgecidicpdobfaaDoorAsks
namespace Go.Proofs.YtgecidicpdobfaaDoor
open Go Go.Abs Go.Abs.F
set_option linter.unusedVariables false

theorem xor_u8 (a b : Nat) (ha : a < 256) (hb : b < 256) : aBin .xor (I .u8 a) (I .u8 b) = some (I .u8 ((a ^^^ b : Nat))) := by
  have h : a ^^^ b < 2 ^ 8 := Nat.xor_lt_two_pow ha hb
  show some (I .u8 (IntKind.u8.wrap ((BitVec.ofInt 8 a ^^^ BitVec.ofInt 8 b).toNat : Nat))) = _
  rw [BitVec.toNat_xor, bv_nat 8 a ha, bv_nat 8 b hb, wrap8, Nat.mod_eq_of_lt h]

section
variable {s t : St} {x y : S} {bs cs : List UInt8}

/-- A byte of a slice of our own is written. -/
theorem rd_store (h : Rd s x (U bs)) (ow : Owned s x) {j : Nat} {n : Int} (hn : n = j) (hj : j < bs.length) (c : UInt8) :
    ∃ p b vs, aIndexSl 1 (Z x) (I .i64 n) = some p ∧ aStore 1 p (I .u8 c.toNat) s = some (tt, s.set b (.cells true vs)) ∧ own x = some b ∧ Rd (s.set b (.cells true vs)) x (U (bs.set j c)) := by
  rcases h with ⟨h, _⟩ | ⟨b, o, cap, w, vs, rfl, h1, h2, h3⟩
  · have := congrArg List.length h
    rw [U_len, List.length_nil] at this
    omega
  · obtain ⟨vs', hv'⟩ := ow _ _ _ _ rfl
    rw [h1] at hv'
    cases hv'
    rw [U_len] at h2 h3 ⊢
    refine ⟨Z (.ptr b (o + j)), b, setRange vs (o + j) [.int .u8 c.toNat], by rw [aIndexSl_int hn hj, Nat.mul_one], aStore1_of h1 (by omega), rfl, .inr ⟨b, o, cap, true, _, by rw [U_len, List.length_set], St.get_set_same _ _ _, by rw [U_len, List.length_set, setRange_length]; exact h2, ?_⟩⟩
    rw [U_len, List.length_set]
    show ((vs.set (o + j) (.int .u8 c.toNat)).drop o).take bs.length = _
    apply List.ext_getElem?
    intro q
    have h4 : ((vs.drop o).take bs.length)[q]? = (U bs)[q]? := by rw [h3]
    rw [List.getElem?_take, List.getElem?_drop] at h4 ⊢
    rw [U_get] at h4 ⊢
    by_cases hq : q < bs.length
    · rw [if_pos hq] at h4 ⊢
      by_cases hqj : q = j
      · subst hqj
        rw [List.getElem?_set_self (by omega), List.getElem?_set_self hq]
        rfl
      · rw [List.getElem?_set_ne (by omega), List.getElem?_set_ne (by omega)]
        exact h4
    · rw [if_neg hq]
      have : (bs.set j c)[q]? = none := by simp; omega
      rw [this]
      rfl
end

/-- The grants of the law. -/
def InS (a1 a2 : T) (i m K : Nat) (q : Nat) (v : List T) (s : St) : Prop :=
  ∃ (gs : List (Nat × Nat)) (f : Fl) (a : Nat) (x : S) (j : Nat), q + j = K ∧ v = [a1, a2, I .i64 K, Z (.ptr i 0), Z (.ptr a 0), I .i64 j] ∧ Ar (fun _ => False) (fun _ => none) s i m 1000 f a x gs ∧ Good gs ∧ gs.length = j ∧
    ∀ (k : Nat) (g : Nat × Nat), gs[k]? = some g → g.2 = k % 2

theorem spoilt_loop {a1 a2 : T} {i m K : Nat} (hK : K < 9) (r : CallF) (hr : r = R 7) : ∀ q v s, InS a1 a2 i m K q v s → (∃ v' s' q', f3_l1 r 512 v s = some (.normal v', s') ∧ q = q' + 1 ∧ InS a1 a2 i m K q' v' s') ∨
    ∃ j s', f3_l1 r 512 v s = some (j, s') ∧ (∀ v, j ≠ .normal v) ∧ ∃ (gs : List (Nat × Nat)) (f : Fl) (a : Nat) (x : S), j = .exit 0 [a1, a2, I .i64 K, Z (.ptr i 0), Z (.ptr a 0)] ∧ Ar (fun _ => False) (fun _ => none) s' i m 1000 f a x gs ∧ Good gs ∧ gs.length = K := by
  rintro q v s ⟨gs, f, a, x, j, hq, rfl, hA, hgood, hgl, hside⟩
  by_cases hj : j < K
  · left
    have hlast := hgood.last
    have hle := hgood.enc_len (by omega)
    have h2 : (lastG gs).2 ≠ ((j % 2 : Nat) : Int) := by
      rcases hlast.2 with ⟨e, _⟩ | ⟨n, hn, e, v, hv⟩
      · omega
      · have := hside _ _ hv
        have hpos := (List.getElem?_eq_some_iff.1 hv).1
        simp only at this
        omega
    obtain ⟨s2, f2, x2, e2, z2, hfb2, fr2, of2, ox2, A2⟩ := ask_new 1 hA (by omega) (n := j % 2) (v := j) (by omega) (by omega) (by rw [hlast.1, hgl]) h2 (by omega) (by omega)
    have hgood2 := hgood.more (n := j % 2) (by omega) h2
    rw [hgl] at hgood2
    obtain ⟨s3, hs3⟩ : ∃ s3, s3 = s2.push (.cells true [.int .i64 0, .int .i64 0]) := ⟨_, rfl⟩
    have nc3 := aNew_cells s2 [.int .i64 0, .int .i64 0]
    rw [← hs3] at nc3
    have g3 : Gr s2 s3 := by rw [hs3]; exact Gr.push A2.dk.wf _
    have hc3 : s3.get s2.size = some (.cells true [.int .i64 0, .int .i64 0]) := by rw [hs3]; exact St.get_push_same _ _
    obtain ⟨s4, hs4⟩ : ∃ s4, s4 = s3.set s2.size (.cells true [.int .i64 ((j + 1 : Nat) : Int), .int .i64 (j % 2 : Nat)]) := ⟨_, rfl⟩
    have st4 : aStore 2 (Z (.ptr s2.size 0)) (G2 ((j + 1 : Nat) : Int) (j % 2 : Nat)) s3 = some (tt, s4) := by rw [hs4]; exact store2 hc3
    have z3 : s3.size = s2.size + 1 := by rw [hs3]; simp
    have g4 : Gr s2 s4 := ⟨by rw [hs4]; exact St.wf_set g3.1 (by omega) _, by rw [hs4]; simp; omega, fun b hb => by rw [hs4, St.get_set_ne _ _ (by omega)]; exact g3.2.2 b hb⟩
    have c0 : ((j : Int) < (K : Int)) = True := eq_true (by omega)
    have w1 : IntKind.i64.wrap ((j : Int) + 1) = ((j + 1 : Nat) : Int) := by rw [wrap_in _ (by omega) (by omega)]; omega
    have hm : aBin .rem (I .i64 j) (I .i64 2) = some (I .i64 ((j % 2 : Nat) : Int)) := by
      rw [rem_int _ _ _ (by omega), Int.tmod_eq_emod_of_nonneg (by omega)]
      rfl
    refine ⟨[a1, a2, I .i64 K, Z (.ptr i 0), Z (.ptr a 0), I .i64 ((j + 1 : Nat) : Int)], s4, q - 1, ?_, by omega, gs ++ [(j + 1, j % 2)], f2, a, x2, j + 1, by omega, rfl, A2.gr g4, hgood2, by simp [hgl], fun k g hg => ?_⟩
    · have e2' : R 7 8 [Z (.ptr a 0), I .i64 ((j % 2 : Nat) : Int), I .i64 j] s = some (.tup [.agg [.int .i64 ((j + 1 : Nat) : Int), .int .i64 ((j % 2 : Nat) : Int)], .s (.int .i64 0)], s2) := e2
      rw [← hr] at e2'
      generalize ((j + 1 : Nat) : Int) = J1 at *
      generalize ((j % 2 : Nat) : Int) = J2 at *
      generalize (j : Int) = J at *
      unfold f3_l1
      simp [c0, hm, e2', aExtract, nc3, st4, w1]
    · by_cases hk : k < gs.length
      · rw [List.getElem?_append_left hk] at hg
        exact hside k g hg
      · rw [List.getElem?_append_right (by omega)] at hg
        have : k - gs.length = 0 := by
          have := (List.getElem?_eq_some_iff.1 hg).1
          simp at this
          omega
        rw [this] at hg
        simp at hg
        rw [← hg]
        show j % 2 = k % 2
        rw [show k = j by omega]
  · right
    have c0 : ¬ ((j : Int) < (K : Int)) := by omega
    refine ⟨.exit 0 [a1, a2, I .i64 K, Z (.ptr i 0), Z (.ptr a 0)], s, ?_, (fun v hv => by cases hv), gs, f, a, x, rfl, hA, hgood, by omega⟩
    unfold f3_l1
    simp [c0]

theorem quo_nat (a b : Nat) (hb : 0 < b) (ha : a < 2 ^ 62) : aBin .quo (I .i64 a) (I .i64 b) = some (I .i64 ((a / b : Nat))) := by
  rw [quo_int _ _ _ (by omega)]
  have : (a : Int).tdiv (b : Int) = ((a / b : Nat) : Int) := rfl
  rw [this, wrapi _ (by have := Nat.div_le_self a b; omega)]
theorem rem_nat (k : IntKind) (a b : Nat) (hb : 0 < b) : aBin .rem (I k a) (I k b) = some (I k ((a % b : Nat))) := by
  rw [rem_int _ _ _ (by omega), Int.tmod_eq_emod_of_nonneg (by omega)]
  rfl

theorem spoilt_cmp {K : Nat → Prop} {G : Nat → Option Blk} {s : St} {i m a : Nat} {room : Int} {f : Fl} {x y : S} {gs l : List (Nat × Nat)} (r : CallF) (hr : r = R 7) (hA : Ar K G s i m room f a x gs) (hl : GS s y l) (hgl : gs.length ≤ 100) {j : Nat} (hj : j < 1000)
    (hq : j / 6 < gs.length) (hm : ∃ more, l = gs.take (j / 6) ++ more) : ∃ τ, loops (f3_l2 r 512) 512 [Z (.ptr a 0), I .i64 j, Z y, I .i64 0] s = some (.exit 2 [I .i64 j, Z y], τ) ∧ Gr s τ := by
  obtain ⟨more, hmore⟩ := hm
  obtain ⟨jo, τ, lp, rfl, g⟩ := loops_inv (f := f3_l2 r 512) (fun q v u => ∃ k : Nat, q + k = 200 ∧ k ≤ j / 6 ∧ v = [Z (.ptr a 0), I .i64 j, Z y, I .i64 k] ∧ Gr s u) (fun jo u => jo = .exit 2 [I .i64 j, Z y] ∧ Gr s u) (by
    rintro q v u ⟨k, hk, hkj, rfl, g⟩
    have hdiv := quo_nat j 6 (by omega) (by omega)
    have hdiv' : aBin .quo (I .i64 j) (I .i64 6) = some (I .i64 ((j / 6 : Nat))) := hdiv
    by_cases hkl : k < j / 6
    · left
      have hA' := hA.gr g
      have hl' : GS u y l := hl.keep fun c hc => g.2.2 c (hl.lt hA.dk.wf hc)
      obtain ⟨e, he⟩ : ∃ e, gs[k]? = some e := ⟨_, List.getElem?_eq_getElem (by omega)⟩
      have hle : l[k]? = some e := by
        rw [hmore, List.getElem?_append_left (by rw [List.length_take]; omega), List.getElem?_take_of_lt hkl]
        exact he
      obtain ⟨c, q1, q2, _⟩ := hl'.at (n := (k : Int)) rfl hle
      obtain ⟨z, u2, e2, g2, hz⟩ := all_run 5 hA'.dk.wf hA'.ar hA'.gs (by omega)
      obtain ⟨c', q1', q2', _⟩ := hz.at (n := (k : Int)) rfl he
      have ne := ne2 (e.1 : Nat) (e.2 : Nat)
      have hl2 : GS u2 y l := hl'.keep fun c hc => g2.2.2 c (hl'.lt hA'.dk.wf hc)
      obtain ⟨c2, r1, r2, _⟩ := hl2.at (n := (k : Int)) rfl hle
      rw [q1] at r1
      cases r1
      have w1 : IntKind.i64.wrap ((k : Int) + 1) = ((k + 1 : Nat) : Int) := by rw [wrap_in _ (by omega) (by omega)]; omega
      have c0 : ((k : Int) < ((j / 6 : Nat) : Int)) = True := eq_true (by omega)
      refine ⟨[Z (.ptr a 0), I .i64 j, Z y, I .i64 ((k + 1 : Nat) : Int)], u2, q - 1, ?_, by omega, k + 1, by omega, by omega, rfl, g.trans g2⟩
      simp only [Nat.reduceAdd] at e2
      rw [← hr] at e2
      generalize ((k + 1 : Nat) : Int) = K1 at *
      generalize ((j / 6 : Nat) : Int) = J6 at *
      generalize (k : Int) = K0 at *
      generalize (j : Int) = J at *
      unfold f3_l2
      simp [hdiv', c0, q1, q2, e2, q1', q2', ne, r2, w1]
    · right
      have c0 : ((k : Int) < ((j / 6 : Nat) : Int)) = False := eq_false (by omega)
      refine ⟨.exit 2 [I .i64 j, Z y], u, ?_, (fun v hv => by cases hv), rfl, g⟩
      generalize ((j / 6 : Nat) : Int) = J6 at *
      unfold f3_l2
      simp [hdiv', c0]) 512 200 [Z (.ptr a 0), I .i64 j, Z y, I .i64 0] s ⟨0, rfl, Nat.zero_le _, rfl, Gr.refl hA.dk.wf⟩ (by omega)
  exact ⟨τ, lp, g⟩

theorem spoilt_run (n at_ : Int) {c : Int} (hc0 : 0 ≤ c) (hc1 : c < 256) : ∃ τ, R 8 3 [I .i64 n, I .i64 at_, I .u8 c] St.empty = some (B true, τ) := by
  obtain ⟨T0, rfl⟩ : ∃ T0 : Nat, c = T0 := ⟨c.toNat, by omega⟩
  rw [f3_run]
  unfold f3
  obtain ⟨X, hX0, hX1, hX, hX', _⟩ := mod_u n 9 (by omega) (by omega)
  obtain ⟨K, hK, rfl⟩ := nat_of (n := 9) hX0 (by omega)
  obtain ⟨s0, hs0⟩ : ∃ s0, s0 = St.empty := ⟨_, rfl⟩
  have wf0 : s0.wf := by rw [hs0]; exact St.wf_empty
  rw [← hs0]
  obtain ⟨s1, e1, d1, g1⟩ := new_run (room := 1000) 6 wf0 (by omega) (by omega)
  obtain ⟨i, hi⟩ : ∃ i, i = s0.size + 1 := ⟨_, rfl⟩
  obtain ⟨m, hm⟩ : ∃ m, m = s0.size := ⟨_, rfl⟩
  rw [← hi] at e1 d1
  rw [← hm] at d1
  obtain ⟨s2, f, e2, z2, fr2, hfb, hfl, hfx, A2⟩ := open_new 1 d1 (by omega)
  obtain ⟨jo, s3, lp, gs, f3', a, x, rfl, A3, hgood, hgl⟩ := loops_inv (f := f3_l1 (R 7) 512) (InS (I .i64 at_) (I .u8 T0) i m K) (fun j u => ∃ (gs : List (Nat × Nat)) (f : Fl) (a : Nat) (x : S), j = .exit 0 [I .i64 at_, I .u8 T0, I .i64 K, Z (.ptr i 0), Z (.ptr a 0)] ∧ Ar (fun _ => False) (fun _ => none) u i m 1000 f a x gs ∧ Good gs ∧ gs.length = K)
    (spoilt_loop hK (R 7) rfl) 512 K [I .i64 at_, I .u8 T0, I .i64 K, Z (.ptr i 0), Z (.ptr (s2.size - 1) 0), I .i64 0] s2 ⟨[], f, s2.size - 1, .nils, 0, rfl, rfl, A2, Good.nil, rfl, fun k g hg => by simp at hg⟩ (by omega)
  have hle := hgood.enc_len (by omega)
  have hmay : May f3'.nm := by rw [A3.nm]; exact may_v
  obtain ⟨y4, s4, e4, oc4, g4, r4, o4⟩ := read_run 4 A3.dk (k := 0) rfl hmay
  rw [A3.fl] at r4
  rw [A3.nm] at e4
  have cv : views = [118, 105, 101, 119, 115] := rfl
  rw [cv] at e4
  have hll := r4.len
  rw [U_len, hle, hgl] at hll
  have e2' : R 7 7 [Z (.ptr i 0)] s1 = some (.tup [.s (.ptr (s2.size - 1) 0), .s (.int .i64 0)], s2) := e2
  have w6 : IntKind.i64.wrap (6 * (K : Int)) = ((6 * K : Nat) : Int) := by rw [wrap_in _ (by omega) (by omega)]; omega
  simp only [Nat.reduceAdd] at e1 e4
  by_cases hz : K = 0 ∨ T0 = 0
  · have e5 := told_run 6 s4
    simp only [Nat.reduceAdd] at e5
    refine ⟨s4, ?_⟩
    have hcs : (((K : Int) = 0) = True) ∨ (((K : Int) = 0) = False ∧ ((T0 : Int) = 0) = True) := by
      by_cases h0 : K = 0
      · exact .inl (eq_true (by omega))
      · exact .inr ⟨eq_false (by omega), eq_true (by omega)⟩
    generalize s2.size - 1 = A at *
    generalize ((6 * K : Nat) : Int) = K6 at *
    generalize (K : Int) = KI at *
    generalize (T0 : Int) = TI at *
    generalize R 7 = r at e1 e2' lp e4 e5 ⊢
    rcases hcs with hK0 | ⟨hK0, hT0⟩
    · simp [hX, hX', e1, e2', aExtract, lp, e4, hll, w6, hK0, e5]
    · simp [hX, hX', e1, e2', aExtract, lp, e4, hll, w6, hK0, hT0, e5]
  · have hK0 : ((K : Int) = 0) = False := eq_false (by omega)
    have hT0 : ((T0 : Int) = 0) = False := eq_false (by omega)
    -- the place
    obtain ⟨J, hJ0, hJ1, hJ, hJ', _⟩ := mod_u at_ ((6 * K : Nat) : Int) (by omega) (by omega)
    obtain ⟨j, hj, rfl⟩ := nat_of (n := 6 * K) hJ0 hJ1
    have hu6 : IntKind.u64.wrap ((6 * K : Nat) : Int) = ((6 * K : Nat) : Int) := wrap64 _ (by omega)
    obtain ⟨b0, hb0⟩ : ∃ b0, (enc gs)[j]? = some b0 := ⟨_, List.getElem?_eq_getElem (by omega)⟩
    obtain ⟨p, ix, ld⟩ := r4.at (n := (j : Int)) rfl hb0
    have hbb := b0.toNat_lt
    obtain ⟨c', hc'⟩ : ∃ c' : UInt8, c' = UInt8.ofNat (b0.toNat ^^^ T0) := ⟨_, rfl⟩
    have hxlt : b0.toNat ^^^ T0 < 2 ^ 8 := Nat.xor_lt_two_pow hbb (by omega)
    have hcn : c'.toNat = b0.toNat ^^^ T0 := by rw [hc', byte_nat]; omega
    have hxor := xor_u8 b0.toNat T0 (by omega) (by omega)
    rw [← hcn] at hxor
    have hne : (enc gs)[j]? ≠ some c' := by
      rw [hb0]
      intro e
      have h1 : b0.toNat = b0.toNat ^^^ T0 := by rw [← hcn]; cases e; rfl
      have h2 : b0.toNat ^^^ b0.toNat = b0.toNat ^^^ (b0.toNat ^^^ T0) := by rw [← h1]
      rw [Nat.xor_self, ← Nat.xor_assoc, Nat.xor_self, Nat.zero_xor] at h2
      omega
    obtain ⟨p', b, vs, ix', st5, hown, r5⟩ := rd_store r4 oc4.2 (j := j) (n := (j : Int)) rfl (by omega) c'
    rw [ix] at ix'
    cases ix'
    obtain ⟨s5, hs5⟩ : ∃ s5, s5 = s4.set b (.cells true vs) := ⟨_, rfl⟩
    rw [← hs5] at st5 r5
    have hbl := o4 b hown
    have g5 : Gr s3 s5 := ⟨by rw [hs5]; exact St.wf_set g4.1 hbl.2 _, by have := g4.2.1; rw [hs5]; simpa using this, fun q hq => by rw [hs5, St.get_set_ne _ _ (by omega)]; exact g4.2.2 q hq⟩
    have z54 : s5.size = s4.size := by rw [hs5]; rfl
    obtain ⟨y6, s6, e6, g6, gs6, o6⟩ := get_run 2 g5.1 r5 oc4.1 (fun q hq => by have := o4 q hq; omega) (by rw [List.length_set]; omega)
    obtain ⟨hmore, hB, hq⟩ := spoilt hgood (by omega) (j := j) (c := c') (by omega) hne
    obtain ⟨l, to, hP⟩ : ∃ l to, getP ((enc gs).set j c') = (l, to) := ⟨_, _, rfl⟩
    rw [hP] at e6 gs6 hmore hB
    have A6 := (A3.gr g5).gr g6
    obtain ⟨s7, lp2, g7⟩ := spoilt_cmp (R 7) rfl A6 gs6 (by omega) (j := j) (by omega) hq hmore
    have e8 := told_run 6 s7
    have l6 := gs6.len
    have hlen : j / 6 ≤ l.length := by
      obtain ⟨more, hm⟩ := hmore
      rw [show l = gs.take (j / 6) ++ more from hm, List.length_append, List.length_take]
      omega
    have hdiv : aBin .quo (I .i64 j) (I .i64 6) = some (I .i64 ((j / 6 : Nat))) := quo_nat j 6 (by omega) (by omega)
    have hrm : aBin .rem (I .i64 j) (I .i64 6) = some (I .i64 ((j % 6 : Nat))) := rem_nat .i64 j 6 (by omega)
    have hll6 : l.length ≤ 100 := by
      have := getP_len ((enc gs).set j c')
      rw [hP, List.length_set] at this
      simp only at this
      omega
    have w6l : IntKind.i64.wrap (6 * (l.length : Int)) = ((6 * l.length : Nat) : Int) := by rw [wrap_in _ (by omega) (by omega)]; omega
    have d1 : ((l.length : Int) < ((j / 6 : Nat) : Int)) = False := eq_false (by omega)
    simp only [Nat.reduceAdd] at e6 e8
    refine ⟨s7, ?_⟩
    have hcases : (((0 : Int) < ((j % 6 : Nat) : Int)) = False ∧ (((j % 6 : Nat) : Int) = 0) = True) ∨ (((0 : Int) < ((j % 6 : Nat) : Int)) = True ∧ (((j % 6 : Nat) : Int) = 0) = False ∧ ((to : Int) = ((6 * l.length : Nat) : Int)) = True ∧ ((l.length : Int) = ((j / 6 : Nat) : Int)) = True) := by
      by_cases h0 : 0 < j % 6
      · have := hB h0
        cases this
        have hlt : (gs.take (j / 6)).length = j / 6 := by rw [List.length_take]; omega
        exact .inr ⟨eq_true (by omega), eq_false (by omega), eq_true (by rw [hlt]), eq_true (by rw [hlt])⟩
      · exact .inl ⟨eq_false (by omega), eq_true (by omega)⟩
    generalize ((6 * l.length : Nat) : Int) = L6 at *
    generalize (l.length : Int) = L at *
    generalize ((j / 6 : Nat) : Int) = J6 at *
    generalize ((j % 6 : Nat) : Int) = JM at *
    generalize ((6 * K : Nat) : Int) = K6 at *
    generalize (K : Int) = KI at *
    generalize (b0.toNat : Int) = B0 at *
    generalize (c'.toNat : Int) = C0 at *
    generalize (T0 : Int) = TT at *
    generalize (j : Int) = JJ at *
    generalize (to : Int) = TO at *
    generalize s2.size - 1 = A at *
    generalize R 7 = r at e1 e2' lp lp2 e4 e6 e8 ⊢
    rcases hcases with ⟨q1, q2⟩ | ⟨q1, q2, q3, q4⟩
    · by_cases q3 : TO = L6
      · simp [hX, hX', e1, e2', aExtract, lp, e4, hll, w6, hK0, hT0, hu6, hJ, hJ', ix, ld, hxor, st5, e6, l6, hdiv, d1, w6l, hrm, q1, q2, q3, lp2, e8]
      · simp [hX, hX', e1, e2', aExtract, lp, e4, hll, w6, hK0, hT0, hu6, hJ, hJ', ix, ld, hxor, st5, e6, l6, hdiv, d1, w6l, hrm, q1, q2, q3, lp2, e8]
    · simp [hX, hX', e1, e2', aExtract, lp, e4, hll, w6, hK0, hT0, hu6, hJ, hJ', ix, ld, hxor, st5, e6, l6, hdiv, d1, w6l, hrm, q1, q2, q3, q4, lp2, e8]
end Go.Proofs.YtgecidicpdobfaaDoor
