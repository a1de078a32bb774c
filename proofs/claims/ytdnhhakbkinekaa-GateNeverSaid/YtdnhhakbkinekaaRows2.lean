/-
  What the functions of package gate give, for segments in slices, in any store. No conditions but those named in each line.
-/
import Derived.Test.YtdnhhakbkinekaaSort
import Derived.Test.YtdnhhakbkinekaaAbsTwin
namespace Go.Proofs.Ytdnhhakbkinekaa
open Go Go.Abs Go.Abs.F
set_option linter.unusedVariables false

/-- A segment's cells. -/
abbrev seg5 (a b c d e : Int) : List S := [.int .i64 a, .int .i64 b, .int .i64 c, .int .i64 d, .int .u32 e]
def Seg (r : List S) : Prop := ∃ a b c d e, r = seg5 a b c d e ∧ -2 ^ 63 ≤ d ∧ d < 2 ^ 63
def num (r : List S) (k : Nat) : Int := match r[k]? with
  | some (.int _ n) => n
  | _ => 0

/-- A slice of segments. -/
def SR (s : St) (x : S) (rows : List (List S)) : Prop :=
  (rows = [] ∧ (x = .nils ∨ ∃ c o cap, x = .sl c o 0 cap)) ∨ ∃ c cap w, x = .sl c 0 rows.length cap ∧ s.get c = some (.cells w rows.flatten)

/-- Nothing that was there has changed. -/
def Gr (s t : St) : Prop := t.wf ∧ s.size ≤ t.size ∧ ∀ b, b < s.size → t.get b = s.get b
theorem Gr.refl {s : St} (wf : s.wf) : Gr s s := ⟨wf, Nat.le_refl _, fun _ _ => rfl⟩
theorem Gr.push {s : St} (wf : s.wf) (b : Blk) : Gr s (s.push b) := ⟨St.wf_push wf _, by simp, fun c hc => St.get_push_ne _ _ (by omega)⟩
theorem Gr.trans {s t u : St} (h : Gr s t) (k : Gr t u) : Gr s u := ⟨k.1, Nat.le_trans h.2.1 k.2.1, fun b hb => by rw [k.2.2 b (by have := h.2.1; omega), h.2.2 b hb]⟩

section
variable {s t : St} {x : S} {rows : List (List S)}

theorem SR.len (h : SR s x rows) : aLenSl (Z x) = some (I .i64 rows.length) := by
  rcases h with ⟨rfl, rfl | ⟨c, o, cap, rfl⟩⟩ | ⟨c, cap, w, rfl, _⟩ <;> rfl

theorem SR.gr (h : SR s x rows) (wf : s.wf) (g : Gr s t) : SR t x rows := by
  rcases h with h | ⟨c, cap, w, rfl, hc⟩
  · exact .inl h
  · exact .inr ⟨c, cap, w, rfl, by rw [g.2.2 c (wf.lt hc)]; exact hc⟩

theorem rows_take : ∀ (rows : List (List S)) (j : Nat) (r : List S), (∀ q ∈ rows, q.length = 5) → rows[j]? = some r → (rows.flatten.drop (j * 5)).take 5 = r ∧ j * 5 + 5 ≤ rows.flatten.length := by
  intro rows
  induction rows with
  | nil => intro j r _ h; simp at h
  | cons a l ih =>
    intro j r h hj
    have ha := h a List.mem_cons_self
    cases j with
    | zero =>
      simp at hj
      subst hj
      rw [List.flatten_cons, Nat.zero_mul, List.drop_zero, List.take_append_of_le_length (by omega), List.take_of_length_le (by omega), List.length_append]
      exact ⟨rfl, by omega⟩
    | succ j =>
      simp at hj
      obtain ⟨h1, h2⟩ := ih j r (fun q hq => h q (List.mem_cons_of_mem _ hq)) hj
      rw [List.flatten_cons, show (j + 1) * 5 = a.length + j * 5 by omega, List.drop_append, List.drop_of_length_le (by omega), List.nil_append, List.length_append]
      rw [show a.length + j * 5 - a.length = j * 5 by omega]
      exact ⟨h1, by omega⟩

theorem seg_len {rows : List (List S)} (hs : ∀ q ∈ rows, Seg q) : ∀ q ∈ rows, q.length = 5 := fun q hq => by
  obtain ⟨a, b, c, d, e, rfl, _⟩ := hs q hq
  rfl

theorem SR.at (h : SR s x rows) (hs : ∀ q ∈ rows, Seg q) {j : Nat} {r : List S} (hj : rows[j]? = some r) : ∃ p, aIndexSl 5 (Z x) (I .i64 j) = some p ∧ aLoadN 5 p s.get = some (.v (.agg r)) := by
  have hlt := (List.getElem?_eq_some_iff.1 hj).1
  rcases h with ⟨rfl, _⟩ | ⟨c, cap, w, rfl, hc⟩
  · simp at hj
  · obtain ⟨h1, h2⟩ := rows_take rows j r (seg_len hs) hj
    refine ⟨Z (.ptr c (j * 5)), by rw [aIndexSl_int rfl hlt, Nat.zero_add], ?_⟩
    simp only [aLoadN, hc, if_pos h2, h1]

theorem eq5 {q r : List S} (hq : Seg q) (hr : Seg r) : eqB (.a 5 [(0, .i), (1, .i), (2, .i), (3, .i), (4, .i)]) (.v (.agg q)) (.v (.agg r)) = some (B (decide (q = r))) := by
  obtain ⟨a, b, c, d, e, rfl, _⟩ := hq
  obtain ⟨a', b', c', d', e', rfl, _⟩ := hr
  simp only [eqB, aEq, aEqL, leafEq, List.length_cons, List.length_nil, List.getElem?_cons_zero, List.getElem?_cons_succ]
  simp

theorem index_run (d : Nat) (h : SR s x rows) (wf : s.wf) (hs : ∀ q ∈ rows, Seg q) {r : List S} (hr : Seg r) (hl : rows.length ≤ 60) :
    ∃ k t, R (d + 1) 16 [Z x, .v (.agg r)] s = some (I .i64 k, t) ∧ Gr s t ∧ (0 ≤ k ↔ r ∈ rows) := by
  rw [f16_run]
  unfold f16
  obtain ⟨s1, hs1⟩ : ∃ s1, s1 = s.push (.cells true r) := ⟨_, rfl⟩
  have g1 : Gr s s1 := by rw [hs1]; exact Gr.push wf _
  have nw : aNew s (nBox (.v (.agg r))) = some (Z (.ptr s.size 0), s1) := by simp [aNew, nBox, V.cells, hs1]
  have hb : s1.get s.size = some (.cells true r) := by rw [hs1]; exact St.get_push_same _ _
  have hrl : r.length = 5 := by obtain ⟨a, b, c, d, e, rfl, _⟩ := hr; rfl
  have ldb : aLoadN 5 (Z (.ptr s.size 0)) s1.get = some (.v (.agg r)) := by
    simp only [aLoadN, hb, hrl]
    simp [List.take_of_length_le, hrl]
  have h1 := h.gr wf g1
  have hlen := h.len
  generalize R d = c
  obtain ⟨j, t, lp, ht, hq⟩ := loops_inv (f := f16_l1 c 64) (fun k v u => ∃ j : Nat, k + j = rows.length ∧ v = [Z x, Z (.ptr s.size 0), I .i64 rows.length, I .i64 j] ∧ u = s1 ∧ r ∉ rows.take j) (fun j u => u = s1 ∧ ((j = .exit 0 [] ∧ r ∉ rows) ∨ ∃ k : Nat, j = .ret (I .i64 k) ∧ r ∈ rows)) (by
    rintro k v u ⟨j, hk, rfl, rfl, hno⟩
    by_cases hj : j < rows.length
    · obtain ⟨q, hq⟩ : ∃ q, rows[j]? = some q := ⟨_, List.getElem?_eq_getElem hj⟩
      have hqs := hs q (List.mem_of_getElem? hq)
      obtain ⟨p, ix, ld⟩ := h1.at hs hq
      have hlt : (j : Int) < (rows.length : Int) := by omega
      have w1 : IntKind.i64.wrap ((j : Int) + 1) = (j : Int) + 1 := wrap_in _ (by omega) (by omega)
      have e5 := eq5 hr hqs
      by_cases heq : r = q
      · right
        subst heq
        refine ⟨.ret (I .i64 j), u, ?_, (fun v hv => by cases hv), rfl, .inr ⟨j, rfl, List.mem_of_getElem? hq⟩⟩
        unfold f16_l1
        simp [hlt, ldb, ix, ld, e5]
      · left
        refine ⟨[Z x, Z (.ptr s.size 0), I .i64 rows.length, I .i64 ((j : Int) + 1)], u, k - 1, ?_, by omega, j + 1, by omega, by simp, rfl, ?_⟩
        · unfold f16_l1
          simp [hlt, ldb, ix, ld, e5, heq, w1]
        · rw [List.take_add_one, hq]
          simp only [Option.toList_some, List.mem_append, List.mem_singleton, not_or]
          exact ⟨hno, heq⟩
    · right
      have hlt : ¬ (j : Int) < (rows.length : Int) := by omega
      refine ⟨.exit 0 [], u, ?_, (fun v hv => by cases hv), rfl, .inl ⟨rfl, by rwa [List.take_of_length_le (by omega)] at hno⟩⟩
      unfold f16_l1
      simp [hlt]) 64 rows.length [Z x, Z (.ptr s.size 0), I .i64 rows.length, I .i64 0] s1 ⟨0, by omega, by simp, rfl, by simp⟩ (by omega)
  subst ht
  rcases hq with ⟨rfl, hno⟩ | ⟨k, rfl, hin⟩
  · exact ⟨-1, t, by simp [nw, hlen, lp], g1, by simp [hno]⟩
  · exact ⟨k, t, by simp [nw, hlen, lp], g1, by simp [hin]⟩

theorem contains_run (d : Nat) (h : SR s x rows) (wf : s.wf) (hs : ∀ q ∈ rows, Seg q) {r : List S} (hr : Seg r) (hl : rows.length ≤ 60) :
    ∃ t, R (d + 2) 12 [Z x, .v (.agg r)] s = some (B (decide (r ∈ rows)), t) ∧ Gr s t := by
  rw [f12_run]
  unfold f12
  obtain ⟨s1, hs1⟩ : ∃ s1, s1 = s.push (.cells true r) := ⟨_, rfl⟩
  have g1 : Gr s s1 := by rw [hs1]; exact Gr.push wf _
  have nw : aNew s (nBox (.v (.agg r))) = some (Z (.ptr s.size 0), s1) := by simp [aNew, nBox, V.cells, hs1]
  have hb : s1.get s.size = some (.cells true r) := by rw [hs1]; exact St.get_push_same _ _
  have hrl : r.length = 5 := by obtain ⟨a, b, c, d, e, rfl, _⟩ := hr; rfl
  have ldb : aLoadN 5 (Z (.ptr s.size 0)) s1.get = some (.v (.agg r)) := by
    simp only [aLoadN, hb, hrl]
    simp [List.take_of_length_le, hrl]
  obtain ⟨k, t, e, g, hk⟩ := index_run d (h.gr wf g1) g1.1 hs hr hl
  refine ⟨t, ?_, g1.trans g⟩
  generalize R (d + 1) = c at e ⊢
  have : decide (0 ≤ k) = decide (r ∈ rows) := by
    by_cases hin : r ∈ rows
    · simp [hin, hk.2 hin]
    · have : ¬ 0 ≤ k := fun h => hin (hk.1 h)
      simp [hin, this]
  simp [nw, ldb, e, this]

/-- Does q cover r? -/
def up (q r : List S) : Bool := decide (num r 1 < num q 1) && decide (IntKind.i64.wrap (num q 1 - num r 1) = 1) && decide (num q 2 = num r 2) && decide (num q 3 = num r 3)

theorem up_run (d : Nat) (wf : s.wf) {q r : List S} (hq : Seg q) (hr : Seg r) {b : Nat} (hb : s.get b = some (.cells true r)) : ∃ t, R (d + 1) 18 [.v (.agg q), Z (.ptr b 0)] s = some (B (up q r), t) ∧ Gr s t := by
  rw [f18_run]
  unfold f18
  obtain ⟨a1, b1, c1, d1, e1, rfl, _⟩ := hq
  obtain ⟨a2, b2, c2, d2, e2, rfl, _⟩ := hr
  obtain ⟨s1, hs1⟩ : ∃ s1, s1 = s.push (.cells true (seg5 a1 b1 c1 d1 e1)) := ⟨_, rfl⟩
  have g1 : Gr s s1 := by rw [hs1]; exact Gr.push wf _
  have nw : aNew s (nBox (.v (.agg (seg5 a1 b1 c1 d1 e1)))) = some (Z (.ptr s.size 0), s1) := by simp [aNew, nBox, V.cells, hs1]
  have hn : s1.get s.size = some (.cells true (seg5 a1 b1 c1 d1 e1)) := by rw [hs1]; exact St.get_push_same _ _
  have hb1 : s1.get b = some (.cells true (seg5 a2 b2 c2 d2 e2)) := by rw [g1.2.2 b (wf.lt hb)]; exact hb
  have l1 : aLoad1 (Z (.ptr s.size 1)) s1.get = some (I .i64 b1) := aLoad1_of hn rfl
  have l2 : aLoad1 (Z (.ptr s.size 2)) s1.get = some (I .i64 c1) := aLoad1_of hn rfl
  have l3 : aLoad1 (Z (.ptr s.size 3)) s1.get = some (I .i64 d1) := aLoad1_of hn rfl
  have m1 : aLoad1 (Z (.ptr b 1)) s1.get = some (I .i64 b2) := aLoad1_of hb1 rfl
  have m2 : aLoad1 (Z (.ptr b 2)) s1.get = some (I .i64 c2) := aLoad1_of hb1 rfl
  have m3 : aLoad1 (Z (.ptr b 3)) s1.get = some (I .i64 d2) := aLoad1_of hb1 rfl
  refine ⟨s1, ?_, g1⟩
  show _ = some (B (decide (b2 < b1) && decide (IntKind.i64.wrap (b1 - b2) = 1) && decide (c1 = c2) && decide (d1 = d2)), s1)
  by_cases h1 : b2 < b1
  · by_cases h2 : IntKind.i64.wrap (b1 - b2) = 1
    · by_cases h3 : c1 = c2
      · subst h3
        simp [nw, l1, l2, l3, m1, m2, m3, h1, h2]
      · simp [nw, l1, l2, l3, m1, m2, m3, h1, h2, h3]
    · simp [nw, l1, l2, l3, m1, m2, m3, h1, h2]
  · simp [nw, l1, l2, l3, m1, m2, m3, h1]
end
end Go.Proofs.Ytdnhhakbkinekaa
