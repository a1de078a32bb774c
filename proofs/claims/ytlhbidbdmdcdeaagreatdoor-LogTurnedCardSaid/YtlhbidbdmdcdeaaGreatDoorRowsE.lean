/-
  The rows of the laws: what Rows computes, in any store. No conditions but those named in each line.
-/
import Derived.Test.YtlhbidbdmdcdeaaGreatDoorLogLaw
namespace Go.Proofs.YtlhbidbdmdcdeaaGreatDoor
open Go Go.Abs Go.Abs.F
set_option linter.unusedVariables false

structure RowSt where
  out : List Ent
  there : List Nat
  view : Nat
  id : Nat
  at_ : Nat

def sealB (n : Nat) : Bs := [115, 101, 97, 108, 32] ++ (if n = 0 then [49] else if n = 1 then [57] else [51, 51])

def rowStep (σ : RowSt) (k : Nat) : RowSt :=
  if k % 8 = 7 then { σ with out := σ.out ++ [{ ent0 with k := 3, v := (σ.view + 1 : Nat) }], view := σ.view + 1 }
  else if k % 8 = 6 then { σ with out := σ.out ++ [{ ent0 with k := 4, v := (σ.view : Nat), x := sealB (k / 8 % 3) }] }
  else if 3 < k % 8 ∧ 0 < σ.there.length then
    { σ with out := σ.out ++ [{ ent0 with k := 2, v := (σ.view : Nat), i := (σ.there.getD (k / 8 % σ.there.length) 0 : Nat) }],
             there := σ.there.take (k / 8 % σ.there.length) ++ σ.there.drop (k / 8 % σ.there.length + 1) }
  else { out := σ.out ++ [{ k := 1, v := (σ.view : Nat), i := (σ.id + 1 : Nat), t := (k / 8 % 4 : Nat), f := (σ.at_ : Nat), o := (σ.at_ + 1 + k / 8 % 30 : Nat), u := (k % 4294967296 : Nat), x := [] }],
         there := σ.there ++ [σ.id + 1], view := σ.view, id := σ.id + 1, at_ := σ.at_ + 1 + k / 8 % 30 }

def rowsG (ks : List Nat) : RowSt := ks.foldl rowStep ⟨[], [], 0, 0, 0⟩
def rowK (v : Int) : Nat := (IntKind.u64.wrap v).toNat
def rowsE (vs : List Int) : List Ent := (rowsG ((vs.take 40).map rowK)).out

abbrev I64 (vs : List Int) : List S := vs.map (S.int .i64)
abbrev N64 (vs : List Nat) : List S := vs.map fun n : Nat => S.int .i64 (n : Int)

section
variable {s t : St} {x y : S} {bs cs : Bs} {i : Nat} {l m : List Ent} {e n : Nat} {vs : List S}

theorem aBounds_max {len cap k : Nat} (h : k ≤ cap) : aBounds len cap none (some (I .i64 k)) (some (I .i64 k)) = some (0, k, k) := by
  have e1 : ∀ c, k ≤ c → aBnd (I .i64 k) c = some k := fun c h => by
    have h0 : (0 : Int) ≤ (k : Int) := by omega
    have h1 : (k : Int) ≤ (c : Int) := by omega
    simp [aBnd, h]
  delta aBounds
  dsimp only
  rw [e1 _ h]
  dsimp only
  rw [e1 _ (Nat.le_refl _)]

theorem Ow_cut (h : Ow e s x n vs) (h0 : 0 < n) {j : Nat} (hj : j ≤ n) : ∃ y, aPieceSl e (Z x) none (some (I .i64 j)) (some (I .i64 j)) = some (Z y) ∧ Ow e s y j (vs.take (j * e)) ∧ own y = own x := by
  have hl := h.len
  have hm : j * e ≤ n * e := Nat.mul_le_mul_right _ hj
  rcases h.ow with ⟨rfl, h1⟩ | ⟨c, rows, rfl, h1, _⟩ | ⟨c, rows, cap, rfl, hc, h1, h2, h3⟩
  · omega
  · omega
  · have hy : Ow e s (.sl c 0 j (.known j)) j (vs.take (j * e)) := by
      refine ⟨by rw [List.length_take]; omega, .inr (.inr ⟨c, rows, _, rfl, .inr rfl, h1, by omega, ?_⟩)⟩
      rw [← h3, List.take_take, Nat.min_eq_left hm]
    refine ⟨.sl c 0 j (.known j), ?_, hy, rfl⟩
    rcases hc with rfl | rfl
    · simp only [aPieceSl, if_true, aBounds_max hj]
      simp
    · simp only [aPieceSl, aBounds_max hj]
      simp

theorem Fr_other {s0 : St} (h : Fr e s0 s x n vs) (g : Gr s0 t) (hz : s.size ≤ t.size) (hk : ∀ c, own x = some c → t.get c = s.get c) : Fr e s0 t x n vs :=
  ⟨g, h.ow.keep hk, fun c hc => ⟨(h.new c hc).1, Nat.lt_of_lt_of_le (h.new c hc).2 hz⟩⟩

theorem FE.lit' {s0 : St} {e : Ent} (h : FE s0 s x l) (hl : l.length ≤ 1000000) :
    ∃ x' t s', aNew s (nSlice 1 (aFill [.int .i64 0, .int .i64 0, .int .i64 0, .int .i64 0, .int .i64 0, .int .i64 0, .int .u32 0, .str []] [(0, 8, AE e)])) = some (Z (.sl s.size 0 1 (.known 1)), s') ∧ aAppend 8 72 (Z x) (Z (.sl s.size 0 1 (.known 1))) s' = some (Z x', t) ∧ FE s0 t x' (l ++ [e]) ∧ s.size ≤ t.size ∧
      (∀ b, b < s.size → own x ≠ some b → t.get b = s.get b) ∧ (own x' = none ∨ own x' = own x ∨ ∃ c, own x' = some c ∧ s.size ≤ c) := by
  have L := Fr.lit 8 h.gr.1 (n := 1) (vs := cells cE [e]) (by simp [cE])
  obtain ⟨x', t, e1, f, hz, k, o⟩ := (h.gr' L.gr).append' (by_ := 72) (by omega) L.rd.src (by simp [cE]) (by omega)
  refine ⟨x', t, _, rfl, e1, ?_, Nat.le_trans L.gr.2.1 hz, fun b hb ho => ?_, ?_⟩
  · unfold FE
    rw [cells_append, List.length_append]
    exact f
  · rw [k b (Nat.lt_of_lt_of_le hb L.gr.2.1) ho, L.gr.2.2 b hb]
  · rcases o with h | h | ⟨c, h, h'⟩
    · exact .inl h
    · exact .inr (.inl h)
    · exact .inr (.inr ⟨c, h, Nat.le_trans L.gr.2.1 h'⟩)

/-- Two slices that grow side by side. -/
structure Both (s0 s : St) (o y : S) (l : List Ent) (ns : List Nat) : Prop where
  out : FE s0 s o l
  there : Fr 1 s0 s y ns.length (N64 ns)
  ne : ∀ c, own o = some c → own y ≠ some c

theorem Both.lit {s0 : St} {o : S} {ns : List Nat} {e : Ent} (h : Both s0 s o y l ns) (hl : l.length ≤ 1000000) :
    ∃ x' t s', aNew s (nSlice 1 (aFill [.int .i64 0, .int .i64 0, .int .i64 0, .int .i64 0, .int .i64 0, .int .i64 0, .int .u32 0, .str []] [(0, 8, AE e)])) = some (Z (.sl s.size 0 1 (.known 1)), s') ∧ aAppend 8 72 (Z o) (Z (.sl s.size 0 1 (.known 1))) s' = some (Z x', t) ∧ Both s0 t x' y (l ++ [e]) ns := by
  obtain ⟨x', t, s', e1, e2, f, hz, hk, ho⟩ := FE.lit' (e := e) h.out hl
  refine ⟨x', t, s', e1, e2, f, Fr_other h.there f.gr hz fun c hc => hk c (h.there.new c hc).2 fun hh => h.ne c hh hc, fun c hc hy => ?_⟩
  rcases ho with h1 | h1 | ⟨c', h1, h2⟩
  · rw [h1] at hc; cases hc
  · rw [h1] at hc; exact h.ne c hc hy
  · rw [h1] at hc
    cases hc
    have := (h.there.new c hy).2
    omega

theorem Both.app {s0 : St} {o z : S} {ns ms ks : List Nat} (h : Both s0 s o y l ns) (hy : Fr 1 s0 s x ks.length (N64 ks)) (hox : own x = own y) (hz : aSrc 1 (Z z) s.get = some (ms.length, N64 ms)) (hl : (ks.length + ms.length) * 8 ≤ 140737488355328) :
    ∃ y' t, aAppend 1 8 (Z x) (Z z) s = some (Z y', t) ∧ Both s0 t o y' l (ks ++ ms) := by
  obtain ⟨y', t, e1, f, hzz, hk, ho⟩ := hy.append' (by_ := 8) (by omega) hz (by simp) hl
  refine ⟨y', t, e1, Fr_other h.out f.gr hzz fun c hc => hk c (h.out.new c hc).2 fun hh => h.ne c hc (by rw [← hox]; exact hh), ?_, fun c hc hy' => ?_⟩
  · rw [List.length_append]
    have : N64 (ks ++ ms) = N64 ks ++ N64 ms := by simp [N64]
    rw [this]
    exact f
  · rcases ho with h1 | h1 | ⟨c', h1, h2⟩
    · rw [h1] at hy'; cases hy'
    · rw [h1, hox] at hy'; exact h.ne c hc hy'
    · rw [h1] at hy'
      cases hy'
      have := (h.out.new c hc).2
      omega

theorem rem_nat (k : IntKind) (a b : Nat) (h : 0 < b) : aBin .rem (I k a) (I k b) = some (I k ((a % b : Nat))) := by
  rw [rem_int _ _ _ (by omega)]; rfl
theorem quo_nat (k : IntKind) (a b : Nat) (h : 0 < b) (hw : k.wrap ((a / b : Nat) : Int) = ((a / b : Nat) : Int)) : aBin .quo (I k a) (I k b) = some (I k ((a / b : Nat))) := by
  rw [quo_int _ _ _ (by omega)]
  have : Int.tdiv (a : Int) (b : Int) = ((a / b : Nat) : Int) := rfl
  rw [this, hw]


theorem rowK_eq (v : Int) : IntKind.u64.wrap v = ((rowK v : Nat) : Int) := (Int.toNat_of_nonneg (wrap_u64 v)).symm
theorem rowK_lt (v : Int) : rowK v < 2 ^ 64 := by
  have : IntKind.u64.wrap v < 2 ^ 64 := by
    unfold IntKind.wrap
    simp [IntKind.signed, IntKind.bits]
    omega
  rw [rowK_eq] at this
  omega

/-- What the rows' counters are at most. -/
structure RowOk (σ : RowSt) (n : Nat) : Prop where
  out : σ.out.length = n
  there : σ.there.length ≤ n
  view : σ.view ≤ n
  id : σ.id ≤ n
  at_ : σ.at_ ≤ 30 * n

theorem RowOk.step {σ : RowSt} {n : Nat} (h : RowOk σ n) (k : Nat) : RowOk (rowStep σ k) (n + 1) := by
  obtain ⟨h1, h2, h3, h4, h5⟩ := h
  unfold rowStep
  split
  · exact ⟨by simp [h1], by show σ.there.length ≤ _; omega, by show σ.view + 1 ≤ _; omega, by show σ.id ≤ _; omega, by show σ.at_ ≤ _; omega⟩
  · split
    · exact ⟨by simp [h1], by show σ.there.length ≤ _; omega, by show σ.view ≤ _; omega, by show σ.id ≤ _; omega, by show σ.at_ ≤ _; omega⟩
    · split
      · exact ⟨by simp [h1], by simp; omega, by show σ.view ≤ _; omega, by show σ.id ≤ _; omega, by show σ.at_ ≤ _; omega⟩
      · exact ⟨by simp [h1], by simp; omega, by show σ.view ≤ _; omega, by show σ.id + 1 ≤ _; omega, by show σ.at_ + 1 + k / 8 % 30 ≤ _; have := Nat.mod_lt (k / 8) (show 0 < 30 by decide); omega⟩

abbrev rowV (x o y : S) (σ : RowSt) (n : Nat) : List T := [Z x, Z o, Z y, I .i64 (σ.view : Nat), I .i64 (σ.id : Nat), I .i64 (σ.at_ : Nat), I .i64 (n : Nat)]

theorem rows_step (d : Nat) {s0 : St} {o : S} {σ : RowSt} {n : Nat} {is : List Int} (hx : Rd 1 s x is.length (I64 is)) (h : Both s0 s o y σ.out σ.there) (ok : RowOk σ n) (hn : n < is.length) (hn40 : n < 40) :
    ∃ o' y' t, f27_l1 (R d) 8192 (rowV x o y σ n) s = some (.normal (rowV x o' y' (rowStep σ (rowK is[n])) (n + 1)), t) ∧ Both s0 t o' y' (rowStep σ (rowK is[n])).out (rowStep σ (rowK is[n])).there := by
  have hll := hx.lens
  obtain ⟨p, ix, ld⟩ := hx.at1 (j := n) (i := (n : Int)) (v := .int .i64 is[n]) rfl (by simp [I64, hn])
  have hK := rowK_eq is[n]
  have hKl := rowK_lt is[n]
  generalize rowK is[n] = K at *
  generalize is[n] = v at *
  obtain ⟨ok1, ok2, ok3, ok4, ok5⟩ := ok
  obtain ⟨out, there, view, id, at_⟩ := σ
  simp only at ok1 ok2 ok3 ok4 ok5 h
  have c0 : (n : Int) < (is.length : Int) := by omega
  have c1 : (n : Int) < 40 := by omega
  have w1 : IntKind.i64.wrap ((n : Int) + 1) = ((n + 1 : Nat) : Int) := by rw [wrap_in _ (by omega) (by omega)]; omega
  have r8 : aBin .rem (I .u64 (K : Nat)) (I .u64 8) = some (I .u64 ((K % 8 : Nat))) := rem_nat .u64 K 8 (by decide)
  have q8 : aBin .quo (I .u64 (K : Nat)) (I .u64 8) = some (I .u64 ((K / 8 : Nat))) := quo_nat .u64 K 8 (by decide) (wrap64 _ (by omega))
  have e7 : decide (((K % 8 : Nat) : Int) = 7) = decide (K % 8 = 7) := decide_eq_decide.2 (by omega)
  have e6 : decide (((K % 8 : Nat) : Int) = 6) = decide (K % 8 = 6) := decide_eq_decide.2 (by omega)
  have e3 : decide (3 < ((K % 8 : Nat) : Int)) = decide (3 < K % 8) := decide_eq_decide.2 (by omega)
  generalize ((K % 8 : Nat) : Int) = C8 at *
  by_cases k7 : K % 8 = 7
  · have hs : rowStep ⟨out, there, view, id, at_⟩ K = ⟨out ++ [{ ent0 with k := 3, v := (view + 1 : Nat) }], there, view + 1, id, at_⟩ := by unfold rowStep; rw [if_pos k7]
    rw [hs]
    have w2 : IntKind.i64.wrap ((view : Int) + 1) = ((view + 1 : Nat) : Int) := by rw [wrap_in _ (by omega) (by omega)]; omega
    have ag : asAggT (aFill [.int .i64 0, .int .i64 0, .int .i64 0, .int .i64 0, .int .i64 0, .int .i64 0, .int .u32 0, .str []] [(0, 1, (I .i64 3)), (1, 1, I .i64 ((view + 1 : Nat) : Int))]) = some (AE { ent0 with k := 3, v := (view + 1 : Nat) }) := rfl
    obtain ⟨o', t, s', nw, ap, b⟩ := Both.lit (e := { ent0 with k := 3, v := (view + 1 : Nat) }) h (by omega)
    refine ⟨o', y, t, ?_, b⟩
    rw [decide_eq_true k7] at e7
    unfold f27_l1 rowV
    generalize ((view + 1 : Nat) : Int) = V1 at *
    generalize ((n + 1 : Nat) : Int) = N1 at *
    generalize ((is.length : Nat) : Int) = L at *
    generalize ((K : Nat) : Int) = KK at *
    simp [hll, c0, c1, ix, ld, hK, r8, e7, w2, ag, nw, ap, w1]
  · rw [decide_eq_false k7] at e7
    by_cases k6 : K % 8 = 6
    · have hs : rowStep ⟨out, there, view, id, at_⟩ K = ⟨out ++ [{ ent0 with k := 4, v := (view : Nat), x := sealB (K / 8 % 3) }], there, view, id, at_⟩ := by unfold rowStep; rw [if_neg k7, if_pos k6]
      rw [hs]
      rw [decide_eq_true k6] at e6
      obtain ⟨s3, hs3⟩ : ∃ s3, s3 = s.push (.cells true [.str [49], .str [57], .str [51, 51]]) := ⟨_, rfl⟩
      have nw0 : aNew s (nSlice 3 (aFill [.str [], .str [], .str []] [(0, 1, (Z (.str [49]))), (1, 1, (Z (.str [57]))), (2, 1, (Z (.str [51, 51])))])) = some (Z (.sl s.size 0 3 (.known 3)), s3) := by rw [hs3]; rfl
      have g3 : Gr s s3 := by rw [hs3]; exact Gr.push h.out.gr.1 _
      have b3 : s3.get s.size = some (.cells true [.str [49], .str [57], .str [51, 51]]) := by rw [hs3]; exact St.get_push_same _ _
      have hb3 : Both s0 s3 o y out there := ⟨h.out.gr' g3, h.there.gr' g3, h.ne⟩
      have r3 : aBin .rem (I .u64 ((K / 8 : Nat))) (I .u64 3) = some (I .u64 ((K / 8 % 3 : Nat))) := rem_nat .u64 (K / 8) 3 (by decide)
      have hj : K / 8 % 3 < 3 := Nat.mod_lt _ (by decide)
      obtain ⟨w, z, ix2, ld2, ad⟩ : ∃ w z, aIndexSl 1 (Z (.sl s.size 0 3 (.known 3))) (I .u64 ((K / 8 % 3 : Nat))) = some w ∧ aLoad1 w s3.get = some (Z (.str z)) ∧ aBin .add (Z (.str [115, 101, 97, 108, 32])) (Z (.str z)) = some (Z (.str (sealB (K / 8 % 3)))) := by
        generalize K / 8 % 3 = J at hj
        rcases (by omega : J = 0 ∨ J = 1 ∨ J = 2) with rfl | rfl | rfl
        · exact ⟨_, _, rfl, aLoad1_of b3 rfl, str_add _ _ (by decide)⟩
        · exact ⟨_, _, rfl, aLoad1_of b3 rfl, str_add _ _ (by decide)⟩
        · exact ⟨_, _, rfl, aLoad1_of b3 rfl, str_add _ _ (by decide)⟩
      have ag : asAggT (aFill [.int .i64 0, .int .i64 0, .int .i64 0, .int .i64 0, .int .i64 0, .int .i64 0, .int .u32 0, .str []] [(0, 1, (I .i64 4)), (1, 1, I .i64 ((view : Nat) : Int)), (7, 1, Z (.str (sealB (K / 8 % 3))))]) = some (AE { ent0 with k := 4, v := (view : Nat), x := sealB (K / 8 % 3) }) := rfl
      obtain ⟨o', t, s', nw, ap, b⟩ := Both.lit (e := { ent0 with k := 4, v := (view : Nat), x := sealB (K / 8 % 3) }) hb3 (by omega)
      refine ⟨o', y, t, ?_, b⟩
      unfold f27_l1 rowV
      generalize sealB (K / 8 % 3) = SB at *
      generalize ((K / 8 % 3 : Nat) : Int) = K83 at *
      generalize ((K / 8 : Nat) : Int) = K8 at *
      generalize ((K : Nat) : Int) = KK at *
      generalize ((n + 1 : Nat) : Int) = N1 at *
      generalize ((is.length : Nat) : Int) = L at *
      simp [hll, c0, c1, ix, ld, hK, r8, e7, e6, nw0, q8, r3, ix2, ld2, ad, ag, nw, ap, w1]
    · rw [decide_eq_false k6] at e6
      have tl := h.there.rd.lens
      by_cases k3 : 3 < K % 8 ∧ 0 < there.length
      · obtain ⟨k3, kt⟩ := k3
        rw [decide_eq_true k3] at e3
        have hs : rowStep ⟨out, there, view, id, at_⟩ K = ⟨out ++ [{ ent0 with k := 2, v := (view : Nat), i := (there.getD (K / 8 % there.length) 0 : Nat) }], there.take (K / 8 % there.length) ++ there.drop (K / 8 % there.length + 1), view, id, at_⟩ := by
          unfold rowStep; rw [if_neg k7, if_neg k6, if_pos ⟨k3, kt⟩]
        rw [hs]
        have hj : K / 8 % there.length < there.length := Nat.mod_lt _ kt
        have w2 : IntKind.u64.wrap ((there.length : Nat) : Int) = ((there.length : Nat) : Int) := wrap64 _ (by omega)
        have r3 : aBin .rem (I .u64 ((K / 8 : Nat))) (I .u64 (there.length : Nat)) = some (I .u64 ((K / 8 % there.length : Nat))) := rem_nat .u64 (K / 8) there.length kt
        generalize K / 8 % there.length = J at *
        have w3 : IntKind.i64.wrap ((J : Nat) : Int) = ((J : Nat) : Int) := wrapi _ (by omega)
        have w4 : IntKind.i64.wrap ((J : Int) + 1) = ((J + 1 : Nat) : Int) := by rw [wrap_in _ (by omega) (by omega)]; omega
        have g0 : decide (0 < ((there.length : Nat) : Int)) = true := decide_eq_true (by omega)
        obtain ⟨p2, ix2, ld2⟩ := h.there.rd.at1 (j := J) (i := (J : Int)) (v := .int .i64 ((there.getD J 0 : Nat) : Int)) rfl (by simp [N64, hj])
        have ag : asAggT (aFill [.int .i64 0, .int .i64 0, .int .i64 0, .int .i64 0, .int .i64 0, .int .i64 0, .int .u32 0, .str []] [(0, 1, (I .i64 2)), (1, 1, I .i64 ((view : Nat) : Int)), (2, 1, I .i64 ((there.getD J 0 : Nat) : Int))]) = some (AE { ent0 with k := 2, v := (view : Nat), i := (there.getD J 0 : Nat) }) := rfl
        obtain ⟨o', t, s', nw, ap, b⟩ := Both.lit (e := { ent0 with k := 2, v := (view : Nat), i := (there.getD J 0 : Nat) }) h (by omega)
        obtain ⟨y1, p1, ow1, oy1⟩ := Ow_cut b.there.ow kt (j := J) (by omega)
        obtain ⟨y2, p2', rd2, _⟩ := b.there.rd.onfrom (lo := J + 1) (by omega)
        have ht : N64 (there.take J) = (N64 there).take (J * 1) := by simp [N64, List.map_take]
        have hd : N64 (there.drop (J + 1)) = (N64 there).drop ((J + 1) * 1) := by simp [N64, List.map_drop]
        have lt : (there.take J).length = J := by rw [List.length_take]; omega
        have ld' : (there.drop (J + 1)).length = there.length - (J + 1) := by rw [List.length_drop]
        obtain ⟨y', t2, ap2, b2⟩ := b.app (x := y1) (z := y2) (ks := there.take J) (ms := there.drop (J + 1)) ⟨b.there.gr, by rw [lt, ht]; exact ow1, fun c hc => b.there.new c (by rw [← oy1]; exact hc)⟩ oy1 (by rw [ld', hd]; exact rd2.src) (by rw [lt, ld']; omega)
        refine ⟨o', y', t2, ?_, b2⟩
        unfold f27_l1 rowV
        generalize ((there.getD J 0 : Nat) : Int) = TJ at *
        generalize ((J + 1 : Nat) : Int) = J1 at *
        generalize ((J : Nat) : Int) = JJ at *
        generalize ((there.length : Nat) : Int) = TL at *
        generalize ((K / 8 : Nat) : Int) = K8 at *
        generalize ((K : Nat) : Int) = KK at *
        generalize ((n + 1 : Nat) : Int) = N1 at *
        generalize ((is.length : Nat) : Int) = L at *
        simp [hll, c0, c1, ix, ld, hK, r8, e7, e6, e3, tl, g0, q8, w2, r3, w3, ix2, ld2, ag, nw, ap, p1, w4, p2', ap2, w1]
      · have hs : rowStep ⟨out, there, view, id, at_⟩ K = ⟨out ++ [{ k := 1, v := (view : Nat), i := (id + 1 : Nat), t := (K / 8 % 4 : Nat), f := (at_ : Nat), o := (at_ + 1 + K / 8 % 30 : Nat), u := (K % 4294967296 : Nat), x := [] }], there ++ [id + 1], view, id + 1, at_ + 1 + K / 8 % 30⟩ := by
          unfold rowStep; rw [if_neg k7, if_neg k6, if_neg k3]
        rw [hs]
        have w2 : IntKind.i64.wrap ((id : Int) + 1) = ((id + 1 : Nat) : Int) := by rw [wrap_in _ (by omega) (by omega)]; omega
        have w3 : IntKind.i64.wrap ((at_ : Int) + 1) = ((at_ + 1 : Nat) : Int) := by rw [wrap_in _ (by omega) (by omega)]; omega
        have r3 : aBin .rem (I .u64 ((K / 8 : Nat))) (I .u64 30) = some (I .u64 ((K / 8 % 30 : Nat))) := rem_nat .u64 (K / 8) 30 (by decide)
        have r4 : aBin .rem (I .u64 ((K / 8 : Nat))) (I .u64 4) = some (I .u64 ((K / 8 % 4 : Nat))) := rem_nat .u64 (K / 8) 4 (by decide)
        have l3 : K / 8 % 30 < 30 := Nat.mod_lt _ (by decide)
        have l4 : K / 8 % 4 < 4 := Nat.mod_lt _ (by decide)
        have w4 : IntKind.i64.wrap ((K / 8 % 30 : Nat) : Int) = ((K / 8 % 30 : Nat) : Int) := wrapi _ (by omega)
        have w5 : IntKind.i64.wrap ((K / 8 % 4 : Nat) : Int) = ((K / 8 % 4 : Nat) : Int) := wrapi _ (by omega)
        have w6 : IntKind.i64.wrap (((at_ + 1 : Nat) : Int) + ((K / 8 % 30 : Nat) : Int)) = ((at_ + 1 + K / 8 % 30 : Nat) : Int) := by rw [wrap_in _ (by omega) (by omega)]; omega
        have w7 : IntKind.u32.wrap ((K : Nat) : Int) = ((K % 4294967296 : Nat) : Int) := wrap32 K
        have ag : asAggT (aFill [.int .i64 0, .int .i64 0, .int .i64 0, .int .i64 0, .int .i64 0, .int .i64 0, .int .u32 0, .str []] [(0, 1, (I .i64 1)), (1, 1, I .i64 ((view : Nat) : Int)), (2, 1, I .i64 ((id + 1 : Nat) : Int)), (3, 1, I .i64 ((K / 8 % 4 : Nat) : Int)), (4, 1, I .i64 ((at_ : Nat) : Int)), (5, 1, I .i64 ((at_ + 1 + K / 8 % 30 : Nat) : Int)), (6, 1, I .u32 ((K % 4294967296 : Nat) : Int))]) =
          some (AE { k := 1, v := (view : Nat), i := (id + 1 : Nat), t := (K / 8 % 4 : Nat), f := (at_ : Nat), o := (at_ + 1 + K / 8 % 30 : Nat), u := (K % 4294967296 : Nat), x := [] }) := rfl
        obtain ⟨o', t, s', nw, ap, b⟩ := Both.lit (e := { k := 1, v := (view : Nat), i := (id + 1 : Nat), t := (K / 8 % 4 : Nat), f := (at_ : Nat), o := (at_ + 1 + K / 8 % 30 : Nat), u := (K % 4294967296 : Nat), x := [] }) h (by omega)
        have L := Fr.lit 1 b.out.gr.1 (n := 1) (vs := N64 [id + 1]) rfl
        have nw2 : aNew t (nSlice 1 (aFill [.int .i64 0] [(0, 1, I .i64 ((id + 1 : Nat) : Int))])) = some (Z (.sl t.size 0 1 (.known 1)), t.push (.cells true (N64 [id + 1]))) := rfl
        obtain ⟨t1, ht1⟩ : ∃ t1, t1 = t.push (.cells true (N64 [id + 1])) := ⟨_, rfl⟩
        rw [← ht1] at L nw2
        have b1 : Both s0 t1 o' y (out ++ [{ k := 1, v := (view : Nat), i := (id + 1 : Nat), t := (K / 8 % 4 : Nat), f := (at_ : Nat), o := (at_ + 1 + K / 8 % 30 : Nat), u := (K % 4294967296 : Nat), x := [] }]) there := ⟨b.out.gr' L.gr, b.there.gr' L.gr, b.ne⟩
        obtain ⟨y', t2, ap2, b2⟩ := b1.app (x := y) (z := .sl t.size 0 1 (.known 1)) (ks := there) (ms := [id + 1]) b1.there rfl L.rd.src (by simp; omega)
        refine ⟨o', y', t2, ?_, b2⟩
        have g3 : (decide (3 < C8) = false) ∨ (decide (3 < C8) = true ∧ decide (0 < ((there.length : Nat) : Int)) = false) := by
          by_cases hk : 3 < K % 8
          · exact .inr ⟨by rw [e3]; exact decide_eq_true hk, decide_eq_false (by omega)⟩
          · exact .inl (by rw [e3]; exact decide_eq_false hk)
        unfold f27_l1 rowV
        generalize ((id + 1 : Nat) : Int) = ID1 at *
        generalize ((at_ + 1 + K / 8 % 30 : Nat) : Int) = AT2 at *
        generalize ((at_ + 1 : Nat) : Int) = AT1 at *
        generalize ((K / 8 % 30 : Nat) : Int) = K30 at *
        generalize ((K / 8 % 4 : Nat) : Int) = K4 at *
        generalize ((K % 4294967296 : Nat) : Int) = K32 at *
        generalize ((there.length : Nat) : Int) = TL at *
        generalize ((K / 8 : Nat) : Int) = K8 at *
        generalize ((K : Nat) : Int) = KK at *
        generalize ((n + 1 : Nat) : Int) = N1 at *
        generalize ((is.length : Nat) : Int) = L' at *
        clear e3
        rcases g3 with g3 | ⟨g3, g4⟩
        · simp [hll, c0, c1, ix, ld, hK, r8, e7, e6, g3, q8, r3, r4, w2, w3, w4, w5, w6, w7, ag, nw, ap, nw2, ap2, w1]
        · simp [hll, c0, c1, ix, ld, hK, r8, e7, e6, g3, tl, g4, q8, r3, r4, w2, w3, w4, w5, w6, w7, ag, nw, ap, nw2, ap2, w1]

theorem rowsG_succ (ks : List Nat) (k : Nat) : rowsG (ks ++ [k]) = rowStep (rowsG ks) k := by simp [rowsG]

theorem rows_run (d : Nat) (wf : s.wf) {is : List Int} (hx : Rd 1 s x is.length (I64 is)) (hox : ∀ c, own x = some c → c < s.size) : ∃ o t, R (d + 1) 27 [Z x] s = some (Z o, t) ∧ FE s t o (rowsE is) := by
  rw [f27_run]
  unfold f27
  obtain ⟨j, τ, lp, o, hj, f⟩ := loops_inv (f := f27_l1 (R d) 8192) (fun q v u => ∃ (n : Nat) (o y : S), q + n = min is.length 40 ∧ v = rowV x o y (rowsG ((is.take n).map rowK)) n ∧ Both s u o y (rowsG ((is.take n).map rowK)).out (rowsG ((is.take n).map rowK)).there ∧ RowOk (rowsG ((is.take n).map rowK)) n)
    (fun j u => ∃ o, j = .exit 0 [Z o] ∧ FE s u o (rowsE is)) (by
    rintro q v u ⟨n, o, y, hq, rfl, b, ok⟩
    by_cases hn : n < is.length ∧ n < 40
    · left
      have htk : (is.take (n + 1)).map rowK = (is.take n).map rowK ++ [rowK (is[n]'hn.1)] := by
        rw [List.take_add_one, List.getElem?_eq_getElem hn.1, Option.toList_some, List.map_append]
        rfl
      have hr : Rd 1 u x is.length (I64 is) := hx.gr hox b.out.gr
      obtain ⟨o', y', t, e, b'⟩ := rows_step d hr b ok hn.1 hn.2
      have ok' := ok.step (rowK (is[n]'hn.1))
      rw [← rowsG_succ, ← htk] at e b' ok'
      exact ⟨_, t, q - 1, e, by omega, n + 1, o', y', by omega, rfl, b', ok'⟩
    · right
      have hll := hx.lens
      have htk : is.take n = is.take 40 := by
        rcases Nat.lt_or_ge n is.length with h1 | h1
        · obtain rfl : n = 40 := by omega
          rfl
        · rw [List.take_of_length_le h1, List.take_of_length_le (by omega)]
      refine ⟨.exit 0 [Z o], u, ?_, (fun v hv => by cases hv), o, rfl, by unfold rowsE; rw [← htk]; exact b.out⟩
      unfold f27_l1 rowV
      by_cases h1 : n < is.length
      · have c0 : decide ((n : Int) < (is.length : Int)) = true := decide_eq_true (by omega)
        have c1 : decide ((n : Int) < 40) = false := decide_eq_false (by omega)
        generalize ((is.length : Nat) : Int) = L at *
        generalize ((n : Nat) : Int) = NN at *
        simp [hll, c0, c1]
      · have c0 : decide ((n : Int) < (is.length : Int)) = false := decide_eq_false (by omega)
        generalize ((is.length : Nat) : Int) = L at *
        generalize ((n : Nat) : Int) = NN at *
        simp [hll, c0, gtt]) 8192 (min is.length 40) [Z x, Z .nils, Z .nils, I .i64 0, I .i64 0, I .i64 0, I .i64 0] s
    ⟨0, .nils, .nils, by omega, rfl, ⟨Fr.nil 8 wf, Fr.nil 1 wf, fun c hc => by cases hc⟩, ⟨rfl, Nat.le_refl _, Nat.le_refl _, Nat.le_refl _, Nat.le_refl _⟩⟩ (by omega)
  subst hj
  exact ⟨o, τ, by simp [lp], f⟩
end

/-! ### Rows may be -/

theorem seal_ok : ∀ n, n < 3 → (parseP (sealB n)).2.1 = 0 := by decide +kernel

structure RowMay (σ : RowSt) (n : Nat) : Prop where
  ok : RowOk σ n
  may : σ.out.all mayE = true
  wf : ∀ e ∈ σ.out, EWf e
  there : ∀ k ∈ σ.there, 1 ≤ k ∧ k ≤ n

theorem may3 (v : Nat) (h : 0 < v) (k : v ≤ 1000) : mayE { ent0 with k := 3, v := (v : Nat) } = true := by
  unfold mayE
  rw [if_neg (by simp only; omega)]
  simp [ent0]
  omega
theorem may4 (v n : Nat) (k : v ≤ 1000) (hn : n < 3) : mayE { ent0 with k := 4, v := (v : Nat), x := sealB n } = true := by
  unfold mayE
  rw [if_neg (by simp only; omega)]
  have h1 := seal_ok n hn
  have h2 : (sealB n).length ≤ 300 := by unfold sealB; split <;> (try split) <;> simp
  simp [ent0, h1, h2]
theorem may2 (v i : Nat) (k : v ≤ 1000) (h1 : 1 ≤ i) (h2 : i ≤ 1000) : mayE { ent0 with k := 2, v := (v : Nat), i := (i : Nat) } = true := by
  unfold mayE
  rw [if_neg (by simp only; omega)]
  simp [ent0, idOk]
  omega
theorem may1 (v i t f o u : Nat) (k : v ≤ 1000) (h1 : 1 ≤ i) (h2 : i ≤ 1000) (h3 : t < 4) (h4 : f < o) (h5 : o ≤ 100000) : mayE { k := 1, v := (v : Nat), i := (i : Nat), t := (t : Nat), f := (f : Nat), o := (o : Nat), u := (u : Nat), x := [] } = true := by
  unfold mayE
  rw [if_neg (by simp only; omega)]
  simp [idOk]
  omega

theorem RowMay.step {σ : RowSt} {n : Nat} (h : RowMay σ n) (hn : n < 40) (k : Nat) : RowMay (rowStep σ k) (n + 1) := by
  have ok := h.ok.step k
  obtain ⟨⟨h1, h2, h3, h4, h5⟩, may, wf, there⟩ := h
  have all : ∀ {l : List Ent} {e : Ent}, l.all mayE = true → mayE e = true → (l ++ [e]).all mayE = true := fun a b => by simp only [List.all_append, a, List.all_cons, b, List.all_nil]; rfl
  have wfs : ∀ {l : List Ent} {e : Ent}, (∀ x ∈ l, EWf x) → EWf e → ∀ x ∈ l ++ [e], EWf x := fun a b x hx => by
    rcases List.mem_append.1 hx with h | h
    · exact a x h
    · rw [List.mem_singleton.1 h]; exact b
  have main : (rowStep σ k).out.all mayE = true ∧ (∀ e ∈ (rowStep σ k).out, EWf e) ∧ ∀ i ∈ (rowStep σ k).there, 1 ≤ i ∧ i ≤ n + 1 := by
   unfold rowStep
   split
   · exact ⟨all may (may3 _ (by omega) (by omega)), wfs wf ⟨by simp [ent0], by simp [ent0]⟩, fun x hx => by have := there x hx; omega⟩
   · split
     · exact ⟨all may (may4 _ _ (by omega) (Nat.mod_lt _ (by decide))), wfs wf ⟨by simp [ent0], by simp [ent0]⟩, fun x hx => by have := there x hx; omega⟩
     · split
       · rename_i hc
         have hj : k / 8 % σ.there.length < σ.there.length := Nat.mod_lt _ hc.2
         have hm := there _ (List.getElem_mem hj)
         refine ⟨all may (may2 _ _ (by omega) ?_ ?_), wfs wf ⟨by simp [ent0], by simp [ent0]⟩, fun x hx => ?_⟩
         · rw [List.getD_eq_getElem?_getD, List.getElem?_eq_getElem hj, Option.getD_some]; exact hm.1
         · rw [List.getD_eq_getElem?_getD, List.getElem?_eq_getElem hj, Option.getD_some]; omega
         · have : x ∈ σ.there := by
             rcases List.mem_append.1 hx with h | h
             · exact List.mem_of_mem_take h
             · exact List.mem_of_mem_drop h
           have := there x this
           omega
       · have l3 : k / 8 % 30 < 30 := Nat.mod_lt _ (by decide)
         refine ⟨all may (may1 _ _ _ _ _ _ (by omega) (by omega) (by omega) (Nat.mod_lt _ (by decide)) (by omega) (by omega)), wfs wf ⟨by simp only; omega, by simp only; omega⟩, fun x hx => ?_⟩
         rcases List.mem_append.1 hx with h | h
         · have := there x h; omega
         · rw [List.mem_singleton.1 h]; omega
  exact ⟨ok, main.1, main.2.1, main.2.2⟩

theorem rowsG_may : ∀ (ks : List Nat), ks.length ≤ 40 → RowMay (rowsG ks) ks.length := by
  suffices ∀ n (ks : List Nat), ks.length = n → n ≤ 40 → RowMay (rowsG ks) n from fun ks h => this _ ks rfl h
  intro n
  induction n with
  | zero =>
    intro ks h _
    obtain rfl := List.eq_nil_of_length_eq_zero h
    exact ⟨⟨rfl, Nat.le_refl _, Nat.le_refl _, Nat.le_refl _, Nat.le_refl _⟩, rfl, (fun _ h => by cases h), (fun _ h => by cases h)⟩
  | succ n ih =>
    intro ks h hn
    have hne : ks ≠ [] := fun e => by rw [e] at h; cases h
    rw [← List.dropLast_concat_getLast hne, rowsG_succ]
    exact (ih ks.dropLast (by rw [List.length_dropLast]; omega) (by omega)).step (by omega) _

theorem rowStep_x {σ : RowSt} (h : ∀ e ∈ σ.out, e.x.length ≤ 10) (k : Nat) : ∀ e ∈ (rowStep σ k).out, e.x.length ≤ 10 := by
  have add : ∀ {l : List Ent} {e : Ent}, (∀ x ∈ l, x.x.length ≤ 10) → e.x.length ≤ 10 → ∀ x ∈ l ++ [e], x.x.length ≤ 10 := fun a b x hx => by
    rcases List.mem_append.1 hx with h | h
    · exact a x h
    · rw [List.mem_singleton.1 h]; exact b
  unfold rowStep
  split
  · exact add h (by simp [ent0])
  · split
    · exact add h (by unfold sealB; simp only; split <;> (try split) <;> simp)
    · split
      · exact add h (by simp [ent0])
      · exact add h (by simp)

theorem rowsG_x (ks : List Nat) : ∀ e ∈ (rowsG ks).out, e.x.length ≤ 10 := by
  unfold rowsG
  suffices ∀ (ks : List Nat) σ, (∀ e ∈ σ.out, e.x.length ≤ 10) → ∀ e ∈ (ks.foldl rowStep σ).out, e.x.length ≤ 10 from this ks _ (fun e h => by cases h)
  intro ks
  induction ks with
  | nil => intro σ h; exact h
  | cons k r ih => intro σ h; exact ih _ (rowStep_x h k)

theorem framesB_len' : ∀ l : List Ent, (∀ e ∈ l, e.x.length ≤ 10) → (framesB l).length ≤ 92 * l.length
  | [], _ => by simp [framesB]
  | e :: r, h => by
    have h1 := framesB_len' r fun x hx => h x (by simp [hx])
    have h2 : e.x.length ≤ 10 := h e (by simp)
    have h3 := vput_len e.v.toNat
    have h4 := putNs_len (nums e)
    have h5 := nums_len e
    have h6 := wrapB_len (putB e)
    have h7 : (putB e).length ≤ 77 := by simp [putB]; omega
    simp [framesB]
    omega

theorem rowsE_len (vs : List Int) : (framesB (rowsE vs)).length ≤ 3680 := by
  have h1 := framesB_len' (rowsE vs) (rowsG_x _)
  have h2 : (rowsE vs).length ≤ 40 := by
    have hl : ((vs.take 40).map rowK).length ≤ 40 := by simp; omega
    have h := rowsG_may _ hl
    unfold rowsE
    rw [h.ok.out]
    exact hl
  omega

theorem rowsE_may (vs : List Int) : (rowsE vs).all mayE = true ∧ (∀ e ∈ rowsE vs, EWf e) ∧ (rowsE vs).length ≤ 40 := by
  have hl : ((vs.take 40).map rowK).length ≤ 40 := by simp; omega
  have h := rowsG_may _ hl
  exact ⟨h.may, h.wf, by unfold rowsE; rw [h.ok.out]; exact hl⟩
end Go.Proofs.YtlhbidbdmdcdeaaGreatDoor
