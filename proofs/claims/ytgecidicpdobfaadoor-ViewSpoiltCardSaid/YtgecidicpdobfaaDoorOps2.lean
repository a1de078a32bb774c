/-
  What the operations of a disk do, in any store: a new disk, reading, a crash of one file. No conditions but those named in each line.
-/
import Derived.Test.YtgecidicpdobfaaDoorOps
namespace Go.Proofs.YtgecidicpdobfaaDoor
open Go Go.Abs Go.Abs.F
set_option linter.unusedVariables false

section
variable {s t : St} {i m : Nat} {room : Int} {fs : List Fl}

theorem new_run (d : Nat) (wf : s.wf) (h0 : 0 ≤ room) (h1 : room ≤ 1048576) : ∃ t, R (d + 1) 6 [I .i64 room] s = some (Z (.ptr (s.size + 1) 0), t) ∧ Dk t (s.size + 1) s.size room [] ∧ Gr s t := by
  have c0 : ¬ room < 0 := by omega
  have c1 : ¬ 1048576 < room := by omega
  obtain ⟨t, ht⟩ : ∃ t, t = (s.push (.map [])).push (.cells true [.int .i64 room, .map s.size]) := ⟨_, rfl⟩
  have f : t.wf := by rw [ht]; exact St.wf_push (St.wf_push wf _) _
  refine ⟨t, ?_, ⟨f, ?_, ?_, fun k f hf => by simp at hf, fun k k' f f' hf => by simp at hf, List.nodup_nil⟩, f, by rw [ht]; simp; omega, fun b hb => by rw [ht, St.get_push_ne _ _ (by rw [St.size_push]; omega), St.get_push_ne _ _ (by omega)]⟩
  · rw [f6_run]
    unfold f6
    simp [c0, c1, aNew, nMap, nBox, aFill, V.cells, setRange, asAggT, ht]
  · have := St.get_push_same (s.push (.map [])) (.cells true [.int .i64 room, .map s.size])
    rwa [St.size_push, ← ht] at this
  · rw [ht, St.get_push_ne _ _ (by rw [St.size_push]; omega), St.get_push_same]
    rfl

/-- A slice whose block is our own. -/
def Owned (s : St) (y : S) : Prop := ∀ c o n k, y = .sl c o n k → ∃ vs, s.get c = some (.cells true vs)

theorem clone_run (d : Nat) (wf : s.wf) {x : S} {l : List S} (hb : BS s x l) (hl : l.length ≤ 50000) : ∃ y t, R (d + 1) 24 [Z x] s = some (Z y, t) ∧ (okCap y ∧ Owned t y) ∧ Gr s t ∧ Rd t y l ∧ ∀ c, own y = some c → s.size ≤ c ∧ c < t.size := by
  rw [f24_run]
  unfold f24
  by_cases hx : x = .nils
  · subst hx
    have hl0 : l = [] := by
      rcases hb with ⟨_, h⟩ | ⟨c, rows, h, _⟩ | ⟨c, rows, h, _⟩
      · exact h
      · cases h
      · cases h
    subst hl0
    have e : eqB .l (Z .nils) (Z .nils) = some (B true) := rfl
    exact ⟨.nils, s, by simp [e], ⟨trivial, fun c o n k e => by cases e⟩, Gr.refl wf, .inl ⟨rfl, .inl rfl⟩, fun c hc => by cases hc⟩
  · have e : eqB .l (Z x) (Z .nils) = some (B false) := by
      rcases hb with ⟨h, _⟩ | ⟨c, rows, rfl, _⟩ | ⟨c, rows, rfl, _⟩
      · exact absurd h hx
      · rfl
      · rfl
    obtain ⟨s1, hs1⟩ : ∃ s1, s1 = s.push (.cells true []) := ⟨_, rfl⟩
    have g1 : Gr s s1 := by rw [hs1]; exact Gr.push wf _
    have nw : aNew s (nSlice 0 (aFill [] [])) = some (Z (.sl s.size 0 0 (.known 0)), s1) := by simp [aNew, nSlice, aFill, hs1]
    have hn : s1.get s.size = some (.cells true []) := by rw [hs1]; exact St.get_push_same _ _
    have hsrc := (hb.keep (t := s1) fun c hc => g1.2.2 c (hb.lt wf hc)).rd.src
    have z1 : s1.size = s.size + 1 := by rw [hs1]; rfl
    have hB : (0 + l.length) * 1 ≤ 140737488355328 := by omega
    by_cases hz : l.length = 0
    · have hl0 : l = [] := List.eq_nil_of_length_eq_zero hz
      subst hl0
      have hs2 : (s1.set s.size (.cells true [])) = s1.set s.size (.cells true []) := rfl
      refine ⟨.sl s.size 0 0 (.known 0), s1.set s.size (.cells true []), ?_, ⟨Nat.le_refl _, fun c o n k e => by cases e; exact ⟨_, St.get_set_same _ _ _⟩⟩, ⟨St.wf_set g1.1 (by omega) _, by simp; omega, fun b hb' => by rw [St.get_set_ne _ _ (by omega)]; exact g1.2.2 b hb'⟩, .inl ⟨rfl, .inr (.inr ⟨_, _, _, rfl⟩)⟩, fun c hc => by cases hc; exact ⟨Nat.le_refl _, by simp; omega⟩⟩
      have ap : aAppend 1 1 (Z (.sl s.size 0 0 (.known 0))) (Z x) s1 = some (Z (.sl s.size 0 0 (.known 0)), s1.set s.size (.cells true [])) := by
        unfold aAppend
        rw [hsrc]
        dsimp only
        rw [if_neg (by decide), if_pos hB, hn]
        rfl
      simp [e, nw, ap]
    · have hg : (s1.push (.cells true l)).get s1.size = some (.cells true l) := St.get_push_same _ _
      refine ⟨.sl s1.size 0 l.length (.grown 1), s1.push (.cells true l), ?_, ⟨rfl, fun c o n k e => by cases e; exact ⟨_, hg⟩⟩, ⟨St.wf_push g1.1 _, by simp; omega, fun b hb' => by rw [St.get_push_ne _ _ (by omega)]; exact g1.2.2 b hb'⟩, .inr ⟨s1.size, 0, _, _, l, rfl, hg, by omega, by simp⟩, fun c hc => by cases hc; exact ⟨by omega, by simp⟩⟩
      have ap : aAppend 1 1 (Z (.sl s.size 0 0 (.known 0))) (Z x) s1 = some (Z (.sl s1.size 0 l.length (.grown 1)), s1.push (.cells true l)) := by
        unfold aAppend
        rw [hsrc]
        dsimp only
        have hnl : ¬ 0 + l.length ≤ 0 := by omega
        rw [if_neg (by decide), if_pos hB, hn]
        dsimp only
        rw [if_neg hnl, if_pos (by simp)]
        simp
      simp [e, nw, ap]

theorem read_run (d : Nat) (h : Dk s i m room fs) {k : Nat} {f : Fl} (hk : fs[k]? = some f) (hm : May f.nm) :
    ∃ y t, R (d + 3) 9 [Z (.ptr i 0), Z (.str f.nm)] s = some (.tup [.s y, .s (.int .i64 0)], t) ∧ (okCap y ∧ Owned t y) ∧ Gr s t ∧ Rd t y f.l ∧ ∀ c, own y = some c → s.size ≤ c ∧ c < t.size := by
  rw [f9_run]
  unfold f9
  have e1 := find_run d h hk hm
  obtain ⟨a1, a2, a3, a4, _⟩ := h.fl k f hk
  have lf : aLoad1 (Z (.ptr f.fb 0)) s.get = some (Z f.x) := aLoad1_of a1 rfl
  obtain ⟨y, t, e2, oc, g, hr, ho⟩ := clone_run (d + 1) h.wf a2 a4
  refine ⟨y, t, ?_, oc, g, hr, ho⟩
  have e2' : R (d + 2) 24 [Z f.x] s = some (Z y, t) := e2
  generalize R (d + 2) = r at e1 e2' ⊢
  simp [e1, aExtract, lf, e2', retT, allV]

theorem read_none (d : Nat) (h : Dk s i m room fs) {nm : List UInt8} (hno : ∀ g ∈ fs, g.nm ≠ nm) (hm : May nm) : R (d + 3) 9 [Z (.ptr i 0), Z (.str nm)] s = some (.tup [.s .nils, .s (.int .i64 9)], s) := by
  rw [f9_run]
  unfold f9
  have e1 := find_none d h hno hm
  generalize R (d + 2) = r at e1 ⊢
  simp [e1, aExtract, retT, allV]

/-- How many bytes more are kept. -/
def Keeps (s : St) (y : S) (f : Fl) (n : Nat) : Prop :=
  (n = 0 ∧ aLenSl (Z y) = some (I .i64 0)) ∨ ∃ c q, aLenSl (Z y) = some (I .i64 1) ∧ aIndexSl 1 (Z y) (I .i64 0) = some (Z (.ptr c 0)) ∧ c < s.size ∧ aLoad1 (Z (.ptr c 0)) s.get = some (I .i64 q) ∧ (n : Int) = min (max q 0) ((f.l.length : Int) - f.sure)

theorem crash_run (d : Nat) {f : Fl} (h : Dk s i m room [f]) (hnm : f.nm.length ≤ 1000) {y : S} {n : Nat} (hy : Keeps s y f n) (hn : f.sure + n ≤ f.l.length) :
    ∃ x' t, R (d + 2) 17 [Z (.ptr i 0), Z y] s = some (.tup [], t) ∧ Dk t i m room [{ f with x := x', l := f.l.take (f.sure + n), sure := f.sure + n }] ∧ s.size ≤ t.size ∧ (∀ b, b < s.size → b ≠ f.fb → t.get b = s.get b) ∧ (own x' = none ∨ own x' = own f.x) := by
  rw [f17_run]
  unfold f17
  rcases names_run d h (by simpa using hnm) (by simp) with ⟨e, _⟩ | ⟨_, e1⟩
  · cases e
  obtain ⟨s1, hs1⟩ : ∃ s1, s1 = s.push (.cells true [S.str f.nm]) := ⟨_, rfl⟩
  have e1' : R (d + 1) 33 [Z (.ptr i 0)] s = some (Z (.sl s.size 0 1 (.grown 1)), s1) := by rw [hs1]; exact e1
  have g : Gr s s1 := by rw [hs1]; exact Gr.push h.wf _
  have h1 := h.gr g
  have hblk : s1.get s.size = some (.cells true [S.str f.nm]) := by rw [hs1]; exact St.get_push_same _ _
  obtain ⟨a1, a2, a3, a4, a5, a6, a7⟩ := h1.fl 0 f rfl
  obtain ⟨x', pc, b1, b2⟩ := bs_cut a2 (k := f.sure + n) hn
  have ix : aIndexSl 1 (Z (.sl s.size 0 1 (.grown 1))) (I .i64 0) = some (Z (.ptr s.size 0)) := aIndexSl_int (j := 0) rfl (by omega)
  have ld : aLoad1 (Z (.ptr s.size 0)) s1.get = some (Z (.str f.nm)) := aLoad1_of hblk rfl
  have l1 := h1.ld1
  have lk := h1.look (k := 0) (f := f) rfl
  have lf : aLoad1 (Z (.ptr f.fb 0)) s1.get = some (Z f.x) := aLoad1_of a1 rfl
  have lf1 : aLoad1 (Z (.ptr f.fb 1)) s1.get = some (I .i64 f.sure) := aLoad1_of a1 rfl
  have ll := a2.rd.len
  have ll' := b1.rd.len
  have hfl := h1.wf.lt a1
  have hlt : (f.l.take (f.sure + n)).length = f.sure + n := by rw [List.length_take]; omega
  rw [hlt] at ll'
  have w1 : IntKind.i64.wrap ((f.sure : Int) + n) = (f.sure : Int) + n := wrap_in _ (by omega) (by omega)
  have hcast : ((f.sure + n : Nat) : Int) = (f.sure : Int) + n := by omega
  rw [hcast] at pc ll'
  have w2 : IntKind.i64.wrap ((f.l.length : Int) - f.sure) = (f.l.length : Int) - f.sure := wrap_in _ (by omega) (by omega)
  have w3 : IntKind.i64.wrap 1 = 1 := rfl
  obtain ⟨s2, hs2⟩ : ∃ s2, s2 = s1.set f.fb (.cells true [x', .int .i64 f.sure]) := ⟨_, rfl⟩
  have st : aStore 1 (Z (.ptr f.fb 0)) (Z x') s1 = some (tt, s2) := by rw [hs2]; exact aStore1_of a1 (by simp)
  have g2 : s2.get f.fb = some (.cells true [x', .int .i64 f.sure]) := by rw [hs2]; exact St.get_set_same _ _ _
  have lf2 : aLoad1 (Z (.ptr f.fb 0)) s2.get = some (Z x') := aLoad1_of g2 rfl
  obtain ⟨s3, hs3⟩ : ∃ s3, s3 = s2.set f.fb (.cells true [x', .int .i64 ((f.sure : Int) + n)]) := ⟨_, rfl⟩
  have st2 : aStore 1 (Z (.ptr f.fb 1)) (I .i64 ((f.sure : Int) + n)) s2 = some (tt, s3) := by rw [hs3]; exact aStore1_of g2 (by simp)
  have hF : ∀ b, b ≠ f.fb → s3.get b = s1.get b := fun b hb => by rw [hs3, hs2, St.get_set_ne _ _ hb, St.get_set_ne _ _ hb]
  have z3 : s3.size = s1.size := by rw [hs3, hs2]; rfl
  refine ⟨x', s3, ?_, ?_, by have := g.2.1; omega, fun b hb hb1 => by rw [hF b hb1]; exact g.2.2 b hb, b2⟩
  · generalize R (d + 1) = r at e1' ⊢
    have step1 : f17_l1 r 512 [Z (.ptr i 0), Z y, Z (.sl s.size 0 1 (.grown 1)), I .i64 1, I .i64 0] s1 = some (.normal [Z (.ptr i 0), Z y, Z (.sl s.size 0 1 (.grown 1)), I .i64 1, I .i64 1], s3) := by
      unfold f17_l1
      rcases hy with ⟨rfl, hy0⟩ | ⟨c, q, hy0, hy1, hyc, hy2, hy3⟩
      · rw [show ((0 : Nat) : Int) = 0 from rfl, Int.add_zero] at w1 pc ll' st2
        simp [ix, ld, l1, lk, hy0, lf, lf1, w1, pc, st, lf2, ll', st2, w3]
      · have hy2' : aLoad1 (Z (.ptr c 0)) s1.get = some (I .i64 q) := by
          have := g.2.2 c hyc
          simp only [aLoad1] at hy2 ⊢
          rw [this]
          exact hy2
        rw [hy3] at w1 pc ll' st2
        simp [ix, ld, l1, lk, hy0, hy1, hy2', lf, lf1, ll, w2, w1, pc, st, lf2, ll', st2, w3]
    have step2 : f17_l1 r 512 [Z (.ptr i 0), Z y, Z (.sl s.size 0 1 (.grown 1)), I .i64 1, I .i64 1] s3 = some (.exit 0 [], s3) := by
      unfold f17_l1
      simp
    have lp : loops (f17_l1 r 512) 512 [Z (.ptr i 0), Z y, Z (.sl s.size 0 1 (.grown 1)), I .i64 1, I .i64 0] s1 = some (.exit 0 [], s3) := by
      rw [show (512 : Nat) = 511 + 1 from rfl, loops, step1]
      dsimp only
      rw [show (511 : Nat) = 510 + 1 from rfl, loops, step2]
    simp [e1', lp, retT, allV]
  · have hu := h1.upd (t := s3) (k := 0) (f := f) rfl (x' := x') (l' := f.l.take (f.sure + n)) (sure' := f.sure + n) (by rw [hs3]; exact St.wf_set (by rw [hs2]; exact St.wf_set h1.wf hfl _) (by rw [hs2]; exact hfl) _) (by omega) (fun b _ hb _ => hF b hb) (by rw [hs3, hcast]; exact St.get_set_same _ _ _)
      (b1.keep fun c hc => hF c (by
        rcases b2 with e | e
        · rw [e] at hc; cases hc
        · rw [e] at hc
          exact ((h1.ap 0 0 f f rfl rfl).2 c hc).1)) (by omega) (by omega) (by rcases b2 with e | e; exact .inl e; exact .inr (.inl e))
    exact hu
end
end Go.Proofs.YtgecidicpdobfaaDoor
