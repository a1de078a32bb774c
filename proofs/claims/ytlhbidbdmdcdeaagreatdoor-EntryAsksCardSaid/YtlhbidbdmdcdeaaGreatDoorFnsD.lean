/-
  Several texts in one: what functions that the law reaches compute. No conditions but those named in each line.
-/
import Derived.Test.YtlhbidbdmdcdeaaGreatDoorFnsC
import Derived.Test.YtlhbidbdmdcdeaaGreatDoorFnsB
import Derived.Test.YtlhbidbdmdcdeaaGreatDoorFnsA
import Derived.Test.YtlhbidbdmdcdeaaGreatDoorAbsE
import Derived.Shelf.Strings.OnBuilder
import Derived.Shelf.Strings.Search3
import Derived.Shelf.Strings.Count
import Derived.Test.YtlhbidbdmdcdeaaGreatDoorProg
/-
  The rows of the laws: what Rows computes, in any store. No conditions but those named in each line.
-/
namespace Go.Proofs.YtlhbidbdmdcdeaaGreatDoor
open Go Go.Abs Go.Abs.F
set_option linter.unusedVariables false

structure RowSt where
  out : List Ent
  there : List Nat
  view : Nat
  id : Nat
  at_ : Nat

def sealB (n : Nat) : Bs := [115, 101, 97, 108, 32] ++ (if n = 0 then [49] else if n = 1 then [57] else [51, 51])

def rowStep (σ : RowSt) (k : Nat) : RowSt :=
  if k % 8 = 7 then { σ with out := σ.out ++ [{ ent0 with k := 3, v := (σ.view + 1 : Nat) }], view := σ.view + 1 }
  else if k % 8 = 6 then { σ with out := σ.out ++ [{ ent0 with k := 4, v := (σ.view : Nat), x := sealB (k / 8 % 3) }] }
  else if 3 < k % 8 ∧ 0 < σ.there.length then
    { σ with out := σ.out ++ [{ ent0 with k := 2, v := (σ.view : Nat), i := (σ.there.getD (k / 8 % σ.there.length) 0 : Nat) }],
             there := σ.there.take (k / 8 % σ.there.length) ++ σ.there.drop (k / 8 % σ.there.length + 1) }
  else { out := σ.out ++ [{ k := 1, v := (σ.view : Nat), i := (σ.id + 1 : Nat), t := (k / 8 % 4 : Nat), f := (σ.at_ : Nat), o := (σ.at_ + 1 + k / 8 % 30 : Nat), u := (k % 4294967296 : Nat), x := [] }],
         there := σ.there ++ [σ.id + 1], view := σ.view, id := σ.id + 1, at_ := σ.at_ + 1 + k / 8 % 30 }

abbrev N64 (vs : List Nat) : List S := vs.map fun n : Nat => S.int .i64 (n : Int)

section
variable {s t : St} {x y : S} {bs cs : Bs} {i : Nat} {l m : List Ent} {e n : Nat} {vs : List S}

theorem Fr_other {s0 : St} (h : Fr e s0 s x n vs) (g : Gr s0 t) (hz : s.size ≤ t.size) (hk : ∀ c, own x = some c → t.get c = s.get c) : Fr e s0 t x n vs :=
  ⟨g, h.ow.keep hk, fun c hc => ⟨(h.new c hc).1, Nat.lt_of_lt_of_le (h.new c hc).2 hz⟩⟩

theorem FE.lit' {s0 : St} {e : Ent} (h : FE s0 s x l) (hl : l.length ≤ 1000000) :
    ∃ x' t s', aNew s (nSlice 1 (aFill [.int .i64 0, .int .i64 0, .int .i64 0, .int .i64 0, .int .i64 0, .int .i64 0, .int .u32 0, .str []] [(0, 8, AE e)])) = some (Z (.sl s.size 0 1 (.known 1)), s') ∧ aAppend 8 72 (Z x) (Z (.sl s.size 0 1 (.known 1))) s' = some (Z x', t) ∧ FE s0 t x' (l ++ [e]) ∧ s.size ≤ t.size ∧
      (∀ b, b < s.size → own x ≠ some b → t.get b = s.get b) ∧ (own x' = none ∨ own x' = own x ∨ ∃ c, own x' = some c ∧ s.size ≤ c) := by
  have L := Fr.lit 8 h.gr.1 (n := 1) (vs := cells cE [e]) (by simp [cE])
  obtain ⟨x', t, e1, f, hz, k, o⟩ := (h.gr' L.gr).append' (by_ := 72) (by omega) L.rd.src (by simp [cE]) (by omega)
  refine ⟨x', t, _, rfl, e1, ?_, Nat.le_trans L.gr.2.1 hz, fun b hb ho => ?_, ?_⟩
  · unfold FE
    rw [cells_append, List.length_append]
    exact f
  · rw [k b (Nat.lt_of_lt_of_le hb L.gr.2.1) ho, L.gr.2.2 b hb]
  · rcases o with h | h | ⟨c, h, h'⟩
    · exact .inl h
    · exact .inr (.inl h)
    · exact .inr (.inr ⟨c, h, Nat.le_trans L.gr.2.1 h'⟩)

structure Both (s0 s : St) (o y : S) (l : List Ent) (ns : List Nat) : Prop where
  out : FE s0 s o l
  there : Fr 1 s0 s y ns.length (N64 ns)
  ne : ∀ c, own o = some c → own y ≠ some c

theorem Both.lit {s0 : St} {o : S} {ns : List Nat} {e : Ent} (h : Both s0 s o y l ns) (hl : l.length ≤ 1000000) :
    ∃ x' t s', aNew s (nSlice 1 (aFill [.int .i64 0, .int .i64 0, .int .i64 0, .int .i64 0, .int .i64 0, .int .i64 0, .int .u32 0, .str []] [(0, 8, AE e)])) = some (Z (.sl s.size 0 1 (.known 1)), s') ∧ aAppend 8 72 (Z o) (Z (.sl s.size 0 1 (.known 1))) s' = some (Z x', t) ∧ Both s0 t x' y (l ++ [e]) ns := by
  obtain ⟨x', t, s', e1, e2, f, hz, hk, ho⟩ := FE.lit' (e := e) h.out hl
  refine ⟨x', t, s', e1, e2, f, Fr_other h.there f.gr hz fun c hc => hk c (h.there.new c hc).2 fun hh => h.ne c hh hc, fun c hc hy => ?_⟩
  rcases ho with h1 | h1 | ⟨c', h1, h2⟩
  · rw [h1] at hc; cases hc
  · rw [h1] at hc; exact h.ne c hc hy
  · rw [h1] at hc
    cases hc
    have := (h.there.new c hy).2
    omega

theorem Both.app {s0 : St} {o z : S} {ns ms ks : List Nat} (h : Both s0 s o y l ns) (hy : Fr 1 s0 s x ks.length (N64 ks)) (hox : own x = own y) (hz : aSrc 1 (Z z) s.get = some (ms.length, N64 ms)) (hl : (ks.length + ms.length) * 8 ≤ 140737488355328) :
    ∃ y' t, aAppend 1 8 (Z x) (Z z) s = some (Z y', t) ∧ Both s0 t o y' l (ks ++ ms) := by
  obtain ⟨y', t, e1, f, hzz, hk, ho⟩ := hy.append' (by_ := 8) (by omega) hz (by simp) hl
  refine ⟨y', t, e1, Fr_other h.out f.gr hzz fun c hc => hk c (h.out.new c hc).2 fun hh => h.ne c hc (by rw [← hox]; exact hh), ?_, fun c hc hy' => ?_⟩
  · rw [List.length_append]
    have : N64 (ks ++ ms) = N64 ks ++ N64 ms := by simp [N64]
    rw [this]
    exact f
  · rcases ho with h1 | h1 | ⟨c', h1, h2⟩
    · rw [h1] at hy'; cases hy'
    · rw [h1, hox] at hy'; exact h.ne c hc hy'
    · rw [h1] at hy'
      cases hy'
      have := (h.out.new c hc).2
      omega

structure RowOk (σ : RowSt) (n : Nat) : Prop where
  out : σ.out.length = n
  there : σ.there.length ≤ n
  view : σ.view ≤ n
  id : σ.id ≤ n
  at_ : σ.at_ ≤ 30 * n

theorem RowOk.step {σ : RowSt} {n : Nat} (h : RowOk σ n) (k : Nat) : RowOk (rowStep σ k) (n + 1) := by
  obtain ⟨h1, h2, h3, h4, h5⟩ := h
  unfold rowStep
  split
  · exact ⟨by simp [h1], by show σ.there.length ≤ _; omega, by show σ.view + 1 ≤ _; omega, by show σ.id ≤ _; omega, by show σ.at_ ≤ _; omega⟩
  · split
    · exact ⟨by simp [h1], by show σ.there.length ≤ _; omega, by show σ.view ≤ _; omega, by show σ.id ≤ _; omega, by show σ.at_ ≤ _; omega⟩
    · split
      · exact ⟨by simp [h1], by simp; omega, by show σ.view ≤ _; omega, by show σ.id ≤ _; omega, by show σ.at_ ≤ _; omega⟩
      · exact ⟨by simp [h1], by simp; omega, by show σ.view ≤ _; omega, by show σ.id + 1 ≤ _; omega, by show σ.at_ + 1 + k / 8 % 30 ≤ _; have := Nat.mod_lt (k / 8) (show 0 < 30 by decide); omega⟩

end

/-! ### Rows may be -/

theorem seal_ok : ∀ n, n < 3 → (parseP (sealB n)).2.1 = 0 := by decide +kernel

structure RowMay (σ : RowSt) (n : Nat) : Prop where
  ok : RowOk σ n
  may : σ.out.all mayE = true
  wf : ∀ e ∈ σ.out, EWf e
  there : ∀ k ∈ σ.there, 1 ≤ k ∧ k ≤ n

theorem may3 (v : Nat) (h : 0 < v) (k : v ≤ 1000) : mayE { ent0 with k := 3, v := (v : Nat) } = true := by
  unfold mayE
  rw [if_neg (by simp only; omega)]
  simp [ent0]
  omega
theorem may4 (v n : Nat) (k : v ≤ 1000) (hn : n < 3) : mayE { ent0 with k := 4, v := (v : Nat), x := sealB n } = true := by
  unfold mayE
  rw [if_neg (by simp only; omega)]
  have h1 := seal_ok n hn
  have h2 : (sealB n).length ≤ 300 := by unfold sealB; split <;> (try split) <;> simp
  simp [ent0, h1, h2]
theorem may2 (v i : Nat) (k : v ≤ 1000) (h1 : 1 ≤ i) (h2 : i ≤ 1000) : mayE { ent0 with k := 2, v := (v : Nat), i := (i : Nat) } = true := by
  unfold mayE
  rw [if_neg (by simp only; omega)]
  simp [ent0, idOk]
  omega
theorem may1 (v i t f o u : Nat) (k : v ≤ 1000) (h1 : 1 ≤ i) (h2 : i ≤ 1000) (h3 : t < 4) (h4 : f < o) (h5 : o ≤ 100000) : mayE { k := 1, v := (v : Nat), i := (i : Nat), t := (t : Nat), f := (f : Nat), o := (o : Nat), u := (u : Nat), x := [] } = true := by
  unfold mayE
  rw [if_neg (by simp only; omega)]
  simp [idOk]
  omega

theorem RowMay.step {σ : RowSt} {n : Nat} (h : RowMay σ n) (hn : n < 40) (k : Nat) : RowMay (rowStep σ k) (n + 1) := by
  have ok := h.ok.step k
  obtain ⟨⟨h1, h2, h3, h4, h5⟩, may, wf, there⟩ := h
  have all : ∀ {l : List Ent} {e : Ent}, l.all mayE = true → mayE e = true → (l ++ [e]).all mayE = true := fun a b => by simp only [List.all_append, a, List.all_cons, b, List.all_nil]; rfl
  have wfs : ∀ {l : List Ent} {e : Ent}, (∀ x ∈ l, EWf x) → EWf e → ∀ x ∈ l ++ [e], EWf x := fun a b x hx => by
    rcases List.mem_append.1 hx with h | h
    · exact a x h
    · rw [List.mem_singleton.1 h]; exact b
  have main : (rowStep σ k).out.all mayE = true ∧ (∀ e ∈ (rowStep σ k).out, EWf e) ∧ ∀ i ∈ (rowStep σ k).there, 1 ≤ i ∧ i ≤ n + 1 := by
   unfold rowStep
   split
   · exact ⟨all may (may3 _ (by omega) (by omega)), wfs wf ⟨by simp [ent0], by simp [ent0]⟩, fun x hx => by have := there x hx; omega⟩
   · split
     · exact ⟨all may (may4 _ _ (by omega) (Nat.mod_lt _ (by decide))), wfs wf ⟨by simp [ent0], by simp [ent0]⟩, fun x hx => by have := there x hx; omega⟩
     · split
       · rename_i hc
         have hj : k / 8 % σ.there.length < σ.there.length := Nat.mod_lt _ hc.2
         have hm := there _ (List.getElem_mem hj)
         refine ⟨all may (may2 _ _ (by omega) ?_ ?_), wfs wf ⟨by simp [ent0], by simp [ent0]⟩, fun x hx => ?_⟩
         · rw [List.getD_eq_getElem?_getD, List.getElem?_eq_getElem hj, Option.getD_some]; exact hm.1
         · rw [List.getD_eq_getElem?_getD, List.getElem?_eq_getElem hj, Option.getD_some]; omega
         · have : x ∈ σ.there := by
             rcases List.mem_append.1 hx with h | h
             · exact List.mem_of_mem_take h
             · exact List.mem_of_mem_drop h
           have := there x this
           omega
       · have l3 : k / 8 % 30 < 30 := Nat.mod_lt _ (by decide)
         refine ⟨all may (may1 _ _ _ _ _ _ (by omega) (by omega) (by omega) (Nat.mod_lt _ (by decide)) (by omega) (by omega)), wfs wf ⟨by simp only; omega, by simp only; omega⟩, fun x hx => ?_⟩
         rcases List.mem_append.1 hx with h | h
         · have := there x h; omega
         · rw [List.mem_singleton.1 h]; omega
  exact ⟨ok, main.1, main.2.1, main.2.2⟩

end Go.Proofs.YtlhbidbdmdcdeaaGreatDoor


/-
  The rows of the laws are taken; what was there, what is. No conditions but those named in each line.
-/
namespace Go.Proofs.YtlhbidbdmdcdeaaGreatDoor
open Go Go.Abs Go.Abs.F
set_option linter.unusedVariables false

theorem foldGo_cons (q : FoS) (e : Ent) (l : List Ent) : foldGo q (e :: l) = if asksP q e = 0 then foldGo (nextP q e) l else (asksP q e, q) := rfl

theorem foldGo_append : ∀ (a b : List Ent) (q : FoS), foldGo q (a ++ b) = if (foldGo q a).1 = 0 then foldGo (foldGo q a).2 b else foldGo q a
  | [], b, q => by simp [foldGo]
  | e :: a, b, q => by
    rw [List.cons_append, foldGo_cons, foldGo_cons]
    by_cases h : asksP q e = 0
    · rw [if_pos h, if_pos h, foldGo_append a b]
    · rw [if_neg h, if_neg h, if_neg h]

theorem foldGo_one (q : FoS) (e : Ent) : foldGo q [e] = if asksP q e = 0 then (0, nextP q e) else (asksP q e, q) := by
  unfold foldGo
  split <;> simp [foldGo]

theorem foldGo_ok : ∀ (l : List Ent) (q : FoS), FOk q → FOk (foldGo q l).2
  | [], q, h => h
  | e :: l, q, h => by
    unfold foldGo
    split
    · rename_i ha
      exact foldGo_ok l _ (next_ok h ha)
    · exact h

theorem nextP_w (q : FoS) (e : Ent) : (nextP q e).w = e.v := by
  unfold nextP
  split
  · rfl
  · split
    · rfl
    · split <;> rfl

structure RF (σ : RowSt) (q : FoS) : Prop where
  go : foldGo fs0 σ.out = (0, q)
  ok : FOk q
  ever : ∀ i : Int, i ∈ q.ever ↔ 1 ≤ i ∧ i ≤ (σ.id : Nat)
  there : q.l.map (·.i) = σ.there.map fun n : Nat => ((n : Nat) : Int)
  w : q.w ≤ (σ.view : Nat)

theorem RF.snoc {σ : RowSt} {q : FoS} (h : RF σ q) {e : Ent} (ha : asksP q e = 0) : foldGo fs0 (σ.out ++ [e]) = (0, nextP q e) := by
  rw [foldGo_append, h.go, if_pos rfl, foldGo_one, if_pos ha]

theorem asks_zero {q : FoS} {e : Ent} (hm : mayE e = true) (h1 : ¬ (e.k = 1 ∧ e.i ∈ q.ever)) (h2 : ¬ (e.k = 2 ∧ thereP q.l e.i = false)) (h3 : ¬ e.v < q.w) : asksP q e = 0 := by
  unfold asksP
  rw [if_pos hm, if_neg h1, if_neg h2, if_neg h3]

theorem RF.step {σ : RowSt} {q : FoS} (h : RF σ q) (k : Nat) (hm : ∀ e ∈ (rowStep σ k).out, mayE e = true) : ∃ q', RF (rowStep σ k) q' := by
  have hlen : q.l.length = σ.there.length := by
    have := congrArg List.length h.there
    simpa using this
  have hw := h.w
  unfold rowStep at hm ⊢
  by_cases c7 : k % 8 = 7
  · rw [if_pos c7] at hm ⊢
    obtain ⟨e, he⟩ : ∃ e, e = ({ ent0 with k := 3, v := ((σ.view + 1 : Nat) : Int) } : Ent) := ⟨_, rfl⟩
    rw [← he] at hm ⊢
    have hk : e.k = 3 := by rw [he]
    have hv : e.v = ((σ.view + 1 : Nat) : Int) := by rw [he]
    have ha := asks_zero (q := q) (hm e (by simp)) (by rw [hk]; simp) (by rw [hk]; simp) (by omega)
    have hn : nextP q e = ⟨q.l, q.ever, q.rule, e.v, e.v⟩ := by
      unfold nextP
      rw [if_neg (by omega), if_neg (by omega), if_pos hk]
    exact ⟨nextP q e, h.snoc ha, next_ok h.ok ha, by rw [hn]; exact h.ever, by rw [hn]; exact h.there, by rw [hn, hv]; exact Int.le_refl _⟩
  · rw [if_neg c7] at hm ⊢
    by_cases c6 : k % 8 = 6
    · rw [if_pos c6] at hm ⊢
      obtain ⟨e, he⟩ : ∃ e, e = ({ ent0 with k := 4, v := ((σ.view : Nat) : Int), x := sealB (k / 8 % 3) } : Ent) := ⟨_, rfl⟩
      rw [← he] at hm ⊢
      have hk : e.k = 4 := by rw [he]
      have hv : e.v = ((σ.view : Nat) : Int) := by rw [he]
      have ha := asks_zero (q := q) (hm e (by simp)) (by rw [hk]; simp) (by rw [hk]; simp) (by omega)
      have hn : nextP q e = ⟨q.l, q.ever, (parseP e.x).1, q.v, e.v⟩ := by
        unfold nextP
        rw [if_neg (by omega), if_neg (by omega), if_neg (by omega)]
      exact ⟨nextP q e, h.snoc ha, next_ok h.ok ha, by rw [hn]; exact h.ever, by rw [hn]; exact h.there, by rw [hn, hv]; exact Int.le_refl _⟩
    · rw [if_neg c6] at hm ⊢
      by_cases cd : 3 < k % 8 ∧ 0 < σ.there.length
      · rw [if_pos cd] at hm ⊢
        obtain ⟨j, hj⟩ : ∃ j, j = k / 8 % σ.there.length := ⟨_, rfl⟩
        have hjl : j < σ.there.length := by rw [hj]; exact Nat.mod_lt _ cd.2
        rw [← hj] at hm ⊢
        obtain ⟨e, he⟩ : ∃ e, e = ({ ent0 with k := 2, v := ((σ.view : Nat) : Int), i := ((σ.there.getD j 0 : Nat) : Int) } : Ent) := ⟨_, rfl⟩
        rw [← he] at hm ⊢
        have hk : e.k = 2 := by rw [he]
        have hv : e.v = ((σ.view : Nat) : Int) := by rw [he]
        have hi : e.i = ((σ.there[j] : Nat) : Int) := by
          rw [he, List.getD_eq_getElem?_getD, List.getElem?_eq_getElem hjl]; rfl
        have hq : ∃ y, q.l[j]? = some y ∧ y.i = e.i := by
          have h1 : (q.l.map (·.i))[j]? = some e.i := by
            rw [h.there, List.getElem?_map, List.getElem?_eq_getElem hjl, hi]; rfl
          rw [List.getElem?_map] at h1
          cases hy : q.l[j]? with
          | none => rw [hy] at h1; cases h1
          | some y => rw [hy] at h1; exact ⟨y, rfl, by simpa using h1⟩
        obtain ⟨y, hy, hyi⟩ := hq
        have hth : thereP q.l e.i = true := by
          unfold thereP
          rw [List.any_eq_true]
          exact ⟨y, List.mem_of_getElem? hy, by simpa using hyi⟩
        have hko : kOf q.l e.i = j := tw_len q.l j (by omega) (fun a x ha hx => by
            have := up_at h.ok.up ha hx hy
            exact decide_eq_true (by rw [← hyi]; exact this)) (fun x hx => by rw [hy] at hx; cases hx; exact decide_eq_false (by omega))
        have ha := asks_zero (q := q) (hm e (by simp)) (by rw [hk]; simp) (by rw [hth]; simp) (by omega)
        have hn : nextP q e = ⟨delL q.l e.i, q.ever, q.rule, q.v, e.v⟩ := by
          unfold nextP
          rw [if_neg (by omega), if_pos hk]
        refine ⟨nextP q e, h.snoc ha, next_ok h.ok ha, by rw [hn]; exact h.ever, ?_, by rw [hn, hv]; exact Int.le_refl _⟩
        rw [hn]
        show (delL q.l e.i).map (·.i) = _
        unfold delL
        rw [hko, List.map_append, List.map_take, List.map_drop, h.there, List.map_append, List.map_take, List.map_drop]
      · rw [if_neg cd] at hm ⊢
        obtain ⟨e, he⟩ : ∃ e, e = ({ k := 1, v := ((σ.view : Nat) : Int), i := ((σ.id + 1 : Nat) : Int), t := ((k / 8 % 4 : Nat) : Int), f := ((σ.at_ : Nat) : Int), o := ((σ.at_ + 1 + k / 8 % 30 : Nat) : Int), u := ((k % 4294967296 : Nat) : Int), x := [] } : Ent) := ⟨_, rfl⟩
        rw [← he] at hm ⊢
        have hk : e.k = 1 := by rw [he]
        have hv : e.v = ((σ.view : Nat) : Int) := by rw [he]
        have hi : e.i = ((σ.id + 1 : Nat) : Int) := by rw [he]
        have hni : e.i ∉ q.ever := by rw [h.ever, hi]; omega
        have ha := asks_zero (q := q) (hm e (by simp)) (by intro hh; exact hni hh.2) (by rw [hk]; simp) (by omega)
        have hn : nextP q e = ⟨insL q.l (infE e), q.ever ++ [e.i], q.rule, q.v, e.v⟩ := by
          unfold nextP
          rw [if_pos hk]
        have hko : kOf q.l (infE e).i = q.l.length := tw_len q.l _ (Nat.le_refl _) (fun a x ha hx => by
            have h1 := h.ok.ev x (List.mem_of_getElem? hx)
            rw [h.ever] at h1
            show decide (x.i < e.i) = true
            exact decide_eq_true (by omega)) (fun x hx => by have := (List.getElem?_eq_some_iff.1 hx).1; omega)
        refine ⟨nextP q e, h.snoc ha, next_ok h.ok ha, fun i => ?_, ?_, by rw [hn, hv]; exact Int.le_refl _⟩
        · rw [hn]
          show i ∈ q.ever ++ [e.i] ↔ 1 ≤ i ∧ i ≤ ((σ.id + 1 : Nat) : Int)
          rw [List.mem_append, h.ever, List.mem_singleton, hi]
          omega
        · rw [hn]
          show (insL q.l (infE e)).map (·.i) = (σ.there ++ [σ.id + 1]).map _
          unfold insL
          rw [hko, List.take_length, List.drop_length, List.map_append, h.there, List.map_append]
          show _ ++ [e.i] = _
          rw [hi]
          rfl

structure Sc where
  ever : Bool
  there : Bool
  view : Int
def scStep (k : Int) (s : Sc) (e : Ent) : Sc :=
  ⟨s.ever || (decide (e.k = 1) && decide (e.i = k)), if e.k = 2 ∧ e.i = k then false else (s.there || (decide (e.k = 1) && decide (e.i = k))), e.v⟩

structure ScOk (k : Int) (s : Sc) (q : FoS) : Prop where
  ever : s.ever = decide (k ∈ q.ever)
  there : s.there = thereP q.l k
  view : s.view = q.w

theorem there_ins (l : List Inf) (a : Inf) (k : Int) : thereP (insL l a) k = (thereP l k || decide (a.i = k)) := by
  have h : thereP l k = (thereP (l.take (kOf l a.i)) k || thereP (l.drop (kOf l a.i)) k) := by
    unfold thereP
    rw [← List.any_append, List.take_append_drop]
  rw [h]
  unfold insL thereP
  rw [List.any_append, List.any_cons]
  cases List.any (l.take (kOf l a.i)) _ <;> cases List.any (l.drop (kOf l a.i)) _ <;> cases decide (a.i = k) <;> rfl

theorem there_del {l : List Inf} {i : Int} (hp : l.Pairwise fun a b => a.i < b.i) (h : thereP l i = true) (k : Int) : thereP (delL l i) k = (thereP l k && !decide (i = k)) := by
  have hk := kOf_lt hp h
  have hg : l[kOf l i]? = some l[kOf l i] := List.getElem?_eq_getElem hk
  obtain ⟨y, hy⟩ : ∃ y, y = l[kOf l i] := ⟨_, rfl⟩
  rw [← hy] at hg
  have hsp : l = l.take (kOf l i) ++ y :: l.drop (kOf l i + 1) := by
    conv => lhs; rw [← List.take_append_drop (kOf l i) l, List.drop_eq_getElem_cons hk, ← hy]
  have hyi : y.i = i := by
    unfold thereP at h
    rw [List.any_eq_true] at h
    obtain ⟨x, hx, ex⟩ := h
    have ex' : x.i = i := by simpa using ex
    have hyd : i ≤ y.i := high_drop hp (by rw [List.drop_eq_getElem_cons hk, ← hy]; exact List.mem_cons_self)
    have hx' := hx
    rw [hsp] at hx'
    rcases List.mem_append.1 hx' with h1 | h1
    · have := low_take h1; omega
    · rcases List.mem_cons.1 h1 with rfl | h1
      · exact ex'
      · obtain ⟨a, ha⟩ := List.getElem?_of_mem h1
        rw [List.getElem?_drop] at ha
        have := up_at hp (show kOf l i < kOf l i + 1 + a by omega) hg ha
        omega
  have hs : thereP l k = (thereP (l.take (kOf l i)) k || (decide (i = k) || thereP (l.drop (kOf l i + 1)) k)) := by
    conv => lhs; rw [hsp]
    unfold thereP
    rw [List.any_append, List.any_cons, hyi]
  by_cases e : i = k
  · subst e
    rw [decide_eq_true rfl, Bool.not_true, Bool.and_false]
    unfold thereP delL
    rw [List.any_eq_false]
    intro x hx
    simp only [decide_eq_true_eq]
    rcases List.mem_append.1 hx with h1 | h1
    · have := low_take h1; omega
    · obtain ⟨a, ha⟩ := List.getElem?_of_mem h1
      rw [List.getElem?_drop] at ha
      have := up_at hp (show kOf l i < kOf l i + 1 + a by omega) hg ha
      omega
  · rw [hs, decide_eq_false e]
    unfold delL thereP
    rw [List.any_append]
    simp

theorem ScOk.step {k : Int} {s : Sc} {q : FoS} {e : Ent} (h : ScOk k s q) (ok : FOk q) (ha : asksP q e = 0) : ScOk k (scStep k s e) (nextP q e) := by
  have hm : mayE e = true := by
    unfold asksP at ha
    by_cases hm : mayE e = true
    · exact hm
    · rw [if_neg hm] at ha; cases ha
  obtain ⟨h1, h2, h3⟩ := h
  refine ⟨?_, ?_, (nextP_w q e).symm⟩
  · show (s.ever || (decide (e.k = 1) && decide (e.i = k))) = _
    rw [h1]
    unfold nextP
    by_cases c1 : e.k = 1
    · rw [if_pos c1, decide_eq_true c1, Bool.true_and]
      show _ = decide (k ∈ q.ever ++ [e.i])
      by_cases hi : k ∈ q.ever
      · simp [hi]
      · by_cases he : e.i = k
        · simp [hi, he]
        · have : ¬ k = e.i := fun h => he h.symm
          simp [hi, he, this]
    · rw [if_neg c1, decide_eq_false c1, Bool.false_and, Bool.or_false]
      split
      · rfl
      · split <;> rfl
  · show (if e.k = 2 ∧ e.i = k then false else (s.there || (decide (e.k = 1) && decide (e.i = k)))) = _
    rw [h2]
    unfold nextP
    by_cases c1 : e.k = 1
    · rw [if_pos c1, if_neg (by omega), decide_eq_true c1, Bool.true_and]
      exact (there_ins q.l (infE e) k).symm
    · rw [if_neg c1, decide_eq_false c1, Bool.false_and, Bool.or_false]
      by_cases c2 : e.k = 2
      · rw [if_pos c2]
        have hth : thereP q.l e.i = true := by
          unfold asksP at ha
          rw [if_pos hm, if_neg (by omega)] at ha
          cases ht : thereP q.l e.i with
          | true => rfl
          | false => rw [if_pos ⟨c2, ht⟩] at ha; cases ha
        show _ = thereP (delL q.l e.i) k
        rw [there_del ok.up hth k]
        by_cases he : e.i = k
        · rw [if_pos ⟨c2, he⟩, decide_eq_true he]; simp
        · rw [if_neg (fun h => he h.2), decide_eq_false he]; simp
      · rw [if_neg c2, if_neg (fun h => c2 h.1)]
        split <;> rfl

end Go.Proofs.YtlhbidbdmdcdeaaGreatDoor


/-
  The document's own Fold. No conditions but those named in each line.
-/
namespace Go.Proofs.YtlhbidbdmdcdeaaGreatDoor
open Go Go.Abs Go.Abs.F
set_option linter.unusedVariables false
section
variable {s t : St} {x y a : S}

structure RH (sb u : St) (rp pp : Nat) (q : FoS) (out ev : S) : Prop where
  wf : u.wf
  le : sb.size ≤ u.size
  old : ∀ c, c < sb.size → c ≠ pp → u.get c = sb.get c
  rule : u.get pp = some (.cells true (cP q.rule))
  lst : RI u out q.l
  lown : ∀ c, own out = some c → sb.size ≤ c ∧ c < u.size
  evs : Ow 1 u ev q.ever.length (I64I q.ever)
  eown : ∀ c, own ev = some c → sb.size ≤ c ∧ c < u.size
  dis : ∀ c, own ev = some c → own out ≠ some c

theorem RH.gr {sb u t : St} {rp pp : Nat} {q : FoS} {out ev : S} (h : RH sb u rp pp q out ev) (hp : pp < sb.size) (g : Gr u t) : RH sb t rp pp q out ev :=
  ⟨g.wf, Nat.le_trans h.le g.2.1, fun c hc hne => by rw [g.2.2 c (Nat.lt_of_lt_of_le hc h.le)]; exact h.old c hc hne, g.get h.rule h.wf, Rd.gr h.lst (fun c hc => (h.lown c hc).2) g, fun c hc => ⟨(h.lown c hc).1, Nat.lt_of_lt_of_le (h.lown c hc).2 g.2.1⟩,
    h.evs.gr h.wf g, fun c hc => ⟨(h.eown c hc).1, Nat.lt_of_lt_of_le (h.eown c hc).2 g.2.1⟩, h.dis⟩

set_option maxHeartbeats 8000000 in
theorem rfold_run (d : Nat) (wf : s.wf) {es : List Ent} (ha : RE s a es) (hoa : ∀ c, own a = some c → c < s.size) (hl : es.length ≤ 8000) (hx : ∀ e ∈ es, e.x.length ≤ 8000) : ∃ y t, R (d + 5) 35 [Z a] s = some (resFo (foldGo fs0 es) y, t) ∧ Gr s t ∧
    ((foldGo fs0 es).1 = 0 → RI t y (foldGo fs0 es).2.l ∧ ∀ c, own y = some c → c < t.size) := by
  rw [f35_run]
  unfold f35
  obtain ⟨rp, hrp⟩ : ∃ rp, rp = s.size := ⟨_, rfl⟩
  obtain ⟨s1, hs1⟩ : ∃ s1, s1 = s.push (.cells true (cP pol0)) := ⟨_, rfl⟩
  have nw1 : aNew s (nCells [.int .i64 0, .int .i64 0, .int .i64 0, .int .i64 0, .int .i64 0, .int .i64 0]) = some (Z (.ptr rp 0), s1) := by rw [hs1, hrp]; rfl
  have g1 : Gr s s1 := by rw [hs1]; exact Gr.push wf _
  have r1 : s1.get rp = some (.cells true (cP pol0)) := by rw [hs1, hrp]; exact St.get_push_same _ _
  obtain ⟨s2, e2, g2⟩ := rdefault_run (d + 3) g1.wf
  have r2 := g2.get r1 g1.wf
  obtain ⟨pp, hpp⟩ : ∃ pp, pp = s2.size := ⟨_, rfl⟩
  obtain ⟨s3, hs3⟩ : ∃ s3, s3 = s2.push (.cells true (cP pol0)) := ⟨_, rfl⟩
  have nw3 : aNew s2 (nCells [.int .i64 0, .int .i64 0, .int .i64 0, .int .i64 0, .int .i64 0, .int .i64 0]) = some (Z (.ptr pp 0), s3) := by rw [hs3, hpp]; rfl
  have g3 : Gr s2 s3 := by rw [hs3]; exact Gr.push g2.wf _
  have p3 : s3.get pp = some (.cells true (cP pol0)) := by rw [hs3, hpp]; exact St.get_push_same _ _
  obtain ⟨sb, hsb⟩ : ∃ sb, sb = s3.set pp (.cells true (cP polD)) := ⟨_, rfl⟩
  have st4 : aStore 6 (Z (.ptr pp 0)) (AP polD) s3 = some (tt, sb) := by rw [hsb]; exact store6 p3 rfl
  have hp3 := g3.wf.lt p3
  have wfb : sb.wf := by rw [hsb]; exact St.wf_set g3.wf hp3 _
  have zb : sb.size = s3.size := by rw [hsb]; simp
  have gb : Gr s sb := by
    refine ⟨wfb, by rw [zb]; exact Nat.le_trans (g1.trans g2).2.1 g3.2.1, fun c hc => ?_⟩
    have := (g1.trans g2).2.1
    rw [hsb, St.get_set_ne _ _ (by omega)]
    exact ((g1.trans g2).trans g3).2.2 c hc
  have rpl : rp < s2.size := g2.wf.lt r2
  have rpp : rp ≠ pp := by omega
  have rpb : rp < sb.size := by have := g3.2.1; omega
  have ppb : pp < sb.size := by omega
  have rb : sb.get rp = some (.cells true (cP pol0)) := by rw [hsb, St.get_set_ne _ _ rpp]; exact g3.get r2 g2.wf
  have pb : sb.get pp = some (.cells true (cP polD)) := by rw [hsb]; exact St.get_set_same _ _ _
  have ll := ha.lens
  obtain ⟨j, τ, lp, hj⟩ := loops_inv (f := f35_l1 (R (d + 4)) 8192)
    (fun q v u => ∃ (k : Nat) (qs : FoS) (out ev : S), q + k = es.length ∧ v = [Z a, Z (.ptr rp 0), Z out, Z ev, Z (.ptr pp 0), I .i64 qs.v, I .i64 qs.w, I .i64 ((k : Nat) : Int)] ∧ RH sb u rp pp qs out ev ∧ FOk qs ∧ qs.ever.length ≤ k ∧ foldGo qs (es.drop k) = foldGo fs0 es)
    (fun j u => (∃ (qs : FoS) (out ev : S), j = .exit 0 [Z (.ptr rp 0), Z out, Z (.ptr pp 0), I .i64 qs.v] ∧ RH sb u rp pp qs out ev ∧ foldGo fs0 es = (0, qs)) ∨ (j = .ret (resFo (foldGo fs0 es) .nils) ∧ (foldGo fs0 es).1 ≠ 0 ∧ Gr s u)) (by
    rintro q v u ⟨k, qs, out, ev, hk, rfl, H, hok, hev, hgo⟩
    by_cases hkl : k < es.length
    · have hc : es[k]? = some es[k] := List.getElem?_eq_getElem hkl
      obtain ⟨e, he⟩ : ∃ e, e = es[k] := ⟨_, rfl⟩
      rw [← he] at hc
      have hxe := hx e (List.mem_of_getElem? hc)
      have hdr : es.drop k = e :: es.drop (k + 1) := by rw [List.drop_eq_getElem_cons hkl, he]
      have hau : RE u a es := ha.keep fun c hc => by
        have h1 := hoa c hc
        rw [H.old c (by have := gb.2.1; omega) (by omega)]
        exact gb.2.2 c h1
      have llu := hau.lens
      obtain ⟨p, ix, ld⟩ := hau.atE (n := ((k : Nat) : Int)) rfl hc
      have c0 : ((k : Nat) : Int) < ((es.length : Nat) : Int) := by omega
      have w1 : IntKind.i64.wrap ((k : Int) + 1) = ((k + 1 : Nat) : Int) := by rw [wrap_in _ (by omega) (by omega)]; omega
      obtain ⟨n, hn⟩ : ∃ n, n = u.size := ⟨_, rfl⟩
      obtain ⟨u1, hu1⟩ : ∃ u1, u1 = u.push (.cells true (cE ent0)) := ⟨_, rfl⟩
      have nwe : aNew u (nCells [.int .i64 0, .int .i64 0, .int .i64 0, .int .i64 0, .int .i64 0, .int .i64 0, .int .u32 0, .str []]) = some (Z (.ptr n 0), u1) := by rw [hu1, hn]; rfl
      have b1 : u1.get n = some (.cells true (cE ent0)) := by rw [hu1, hn]; exact St.get_push_same _ _
      have gu1 : Gr u u1 := by rw [hu1]; exact Gr.push H.wf _
      obtain ⟨u2, hu2⟩ : ∃ u2, u2 = u1.set n (.cells true (cE e)) := ⟨_, rfl⟩
      have ste : aStore 8 (Z (.ptr n 0)) (AE e) u1 = some (tt, u2) := by rw [hu2]; exact store8 b1 rfl
      have gu2 : Gr u u2 := by
        rw [hu2]
        exact ⟨St.wf_set gu1.wf (gu1.wf.lt b1) _, by simpa using gu1.2.1, fun c hc => by rw [St.get_set_ne _ _ (by omega)]; exact gu1.2.2 c hc⟩
      have b2 : u2.get n = some (.cells true (cE e)) := by rw [hu2]; exact St.get_set_same _ _ _
      have f2i : aLoad1 (Z (.ptr n 2)) u2.get = some (I .i64 e.i) := aLoad1_of b2 rfl
      have H2 := H.gr ppb gu2
      have hll : qs.l.length ≤ 8000 := by have := hok.len; omega
      have ef := rfind_run (d + 3) H2.lst hll e.i
      rw [find_eq qs.l e.i 0 hok.up] at ef
      have l2 : aLoadN 8 (Z (.ptr n 0)) u2.get = some (AE e) := load8 b2
      obtain ⟨u3, em, g3'⟩ := rmayE_run d gu2.wf e hxe
      have H3 := H2.gr ppb g3'
      have b3 : u3.get n = some (.cells true (cE e)) := g3'.get b2 gu2.wf
      have n3 := H3.wf.lt b3
      have k3 : aLoad1 (Z (.ptr n 0)) u3.get = some (I .i64 e.k) := aLoad1_of b3 rfl
      have v3 : aLoad1 (Z (.ptr n 1)) u3.get = some (I .i64 e.v) := aLoad1_of b3 rfl
      have i3 : aLoad1 (Z (.ptr n 2)) u3.get = some (I .i64 e.i) := aLoad1_of b3 rfl
      have x3 : aLoad1 (Z (.ptr n 7)) u3.get = some (Z (.str e.x)) := aLoad1_of b3 rfl
      have hsl : (I64I qs.ever).length = qs.ever.length := by simp
      have eh := rhas_run (d + 3) (s := u3) (x := ev) (is := qs.ever) H3.evs.rd (by omega) e.i
      rw [hdr] at hgo
      have hgo' : (if asksP qs e = 0 then foldGo (nextP qs e) (es.drop (k + 1)) else (asksP qs e, qs)) = foldGo fs0 es := hgo
      have kol := kOf_le qs.l e.i
      simp only [Nat.add_assoc, Nat.reduceAdd, Nat.zero_add] at ef em eh
      have rr3 : u3.get rp = some (.cells true (cP pol0)) := by rw [H3.old rp rpb rpp]; exact rb
      have sr : aStore 6 (Z (.ptr rp 0)) (AP pol0) u3 = some (tt, u3.set rp (.cells true (cP pol0))) := store6 rr3 rfl
      obtain ⟨u4, hu4⟩ : ∃ u4, u4 = u3.set rp (.cells true (cP pol0)) := ⟨_, rfl⟩
      rw [← hu4] at sr
      have lr : aLoadN 6 (Z (.ptr rp 0)) u4.get = some (AP pol0) := load6 (by rw [hu4]; exact St.get_set_same _ _ _)
      have g04 : Gr s u4 := by
        rw [hu4]
        have hb := gb.2.1
        have hle := H3.le
        exact ⟨St.wf_set H3.wf (by omega) _, by simp only [St.size_set]; omega, fun c hc => by rw [St.get_set_ne _ _ (by omega), H3.old c (by omega) (by omega)]; exact gb.2.2 c hc⟩
      have fail : ∀ C : Int, asksP qs e = C → C ≠ 0 → f35_l1 (R (d + 4)) 8192 [Z a, Z (.ptr rp 0), Z out, Z ev, Z (.ptr pp 0), I .i64 qs.v, I .i64 qs.w, I .i64 ((k : Nat) : Int)] u = some (.ret (.tup [.s .nils, .agg (cP pol0), .s (.int .i64 0), .s (.int .i64 C)]), u4) →
          ∃ j s', f35_l1 (R (d + 4)) 8192 [Z a, Z (.ptr rp 0), Z out, Z ev, Z (.ptr pp 0), I .i64 qs.v, I .i64 qs.w, I .i64 ((k : Nat) : Int)] u = some (j, s') ∧ (∀ v, j ≠ .normal v) ∧
            ((∃ (qs : FoS) (out ev : S), j = .exit 0 [Z (.ptr rp 0), Z out, Z (.ptr pp 0), I .i64 qs.v] ∧ RH sb s' rp pp qs out ev ∧ foldGo fs0 es = (0, qs)) ∨ (j = .ret (resFo (foldGo fs0 es) .nils) ∧ (foldGo fs0 es).1 ≠ 0 ∧ Gr s s')) := fun C hC hC0 hrun => by
        rw [hC, if_neg hC0] at hgo'
        refine ⟨_, _, hrun, (fun v hv => by cases hv), .inr ⟨?_, by rw [← hgo']; exact hC0, g04⟩⟩
        rw [← hgo']
        have : resFo (C, qs) .nils = .tup [.s .nils, .agg (cP pol0), .s (.int .i64 0), .s (.int .i64 C)] := if_neg hC0
        rw [this]
      have okk : ∀ (out' ev' : S) (u' : St), asksP qs e = 0 → RH sb u' rp pp (nextP qs e) out' ev' → f35_l1 (R (d + 4)) 8192 [Z a, Z (.ptr rp 0), Z out, Z ev, Z (.ptr pp 0), I .i64 qs.v, I .i64 qs.w, I .i64 ((k : Nat) : Int)] u = some (.normal [Z a, Z (.ptr rp 0), Z out', Z ev', Z (.ptr pp 0), I .i64 (nextP qs e).v, I .i64 (nextP qs e).w, I .i64 ((k + 1 : Nat) : Int)], u') →
          ∃ v' s' k', f35_l1 (R (d + 4)) 8192 [Z a, Z (.ptr rp 0), Z out, Z ev, Z (.ptr pp 0), I .i64 qs.v, I .i64 qs.w, I .i64 ((k : Nat) : Int)] u = some (.normal v', s') ∧ q = k' + 1 ∧
            ∃ (k : Nat) (qs : FoS) (out ev : S), k' + k = es.length ∧ v' = [Z a, Z (.ptr rp 0), Z out, Z ev, Z (.ptr pp 0), I .i64 qs.v, I .i64 qs.w, I .i64 ((k : Nat) : Int)] ∧ RH sb s' rp pp qs out ev ∧ FOk qs ∧ qs.ever.length ≤ k ∧ foldGo qs (es.drop k) = foldGo fs0 es := fun out' ev' u' hC hH hrun => by
        rw [hC, if_pos rfl] at hgo'
        exact ⟨_, u', q - 1, hrun, by omega, k + 1, nextP qs e, out', ev', by omega, rfl, hH, next_ok hok hC, by have := next_ever (q := qs) (e := e); omega, hgo'⟩
      clear hgo hdr he
      by_cases hm : mayE e = true
      · rw [hm] at em
        obtain ⟨v0, v1, k0, k1, q1, q2, q3, q4⟩ := mayE_range hm
        by_cases hv : e.v < qs.w
        · -- an old view
          by_cases h7 : e.k = 1 ∧ e.i ∈ qs.ever
          · right
            refine fail 7 (by unfold asksP; rw [if_pos hm, if_pos h7]) (by decide) ?_
            rw [decide_eq_true h7.2] at eh
            have hk1 := h7.1
            clear fail okk hgo'
            unfold f35_l1
            generalize R (d + 4) = r at *
            generalize ((k + 1 : Nat) : Int) = K1 at *
            generalize ((k : Nat) : Int) = K at *
            generalize ((es.length : Nat) : Int) = LL at *
            generalize (if thereP qs.l e.i = true then ((kOf qs.l e.i : Nat) : Int) else -1) = AT at *
            simp [llu, c0, ix, ld, nwe, ste, gtt, f2i, ef, l2, em, k3, hk1, i3, eh, agg6, sr, lr, rC, rT, retT, allV]
          · by_cases h9 : e.k = 2 ∧ thereP qs.l e.i = false
            · right
              refine fail 9 (by unfold asksP; rw [if_pos hm, if_neg h7, if_pos h9]) (by decide) ?_
              have hk1 := h9.1
              rw [h9.2, if_neg (by decide)] at ef
              clear fail okk hgo'
              unfold f35_l1
              generalize R (d + 4) = r at *
              generalize ((k + 1 : Nat) : Int) = K1 at *
              generalize ((k : Nat) : Int) = K at *
              generalize ((es.length : Nat) : Int) = LL at *
              simp [llu, c0, ix, ld, nwe, ste, gtt, f2i, ef, l2, em, k3, hk1, i3, eh, agg6, sr, lr, rC, rT, retT, allV]
            · right
              refine fail 12 (by unfold asksP; rw [if_pos hm, if_neg h7, if_neg h9, if_pos hv]) (by decide) ?_
              clear fail okk hgo'
              unfold f35_l1
              rcases (by omega : e.k = 1 ∨ e.k = 2 ∨ e.k = 3 ∨ e.k = 4) with hk1 | hk1 | hk1 | hk1
              · have hni : e.i ∉ qs.ever := fun h => h7 ⟨hk1, h⟩
                rw [decide_eq_false hni] at eh
                generalize R (d + 4) = r at *
                generalize ((k + 1 : Nat) : Int) = K1 at *
                generalize ((k : Nat) : Int) = K at *
                generalize ((es.length : Nat) : Int) = LL at *
                generalize (if thereP qs.l e.i = true then ((kOf qs.l e.i : Nat) : Int) else -1) = AT at *
                simp [llu, c0, ix, ld, nwe, ste, gtt, f2i, ef, l2, em, k3, hk1, i3, eh, v3, hv, agg6, sr, lr, rC, rT, retT, allV]
              · have hth : thereP qs.l e.i = true := by
                  cases ht : thereP qs.l e.i with
                  | true => rfl
                  | false => exact (h9 ⟨hk1, ht⟩).elim
                rw [hth, if_pos rfl] at ef
                have hat : ¬ ((kOf qs.l e.i : Nat) : Int) < 0 := by omega
                generalize R (d + 4) = r at *
                generalize ((k + 1 : Nat) : Int) = K1 at *
                generalize ((k : Nat) : Int) = K at *
                generalize ((es.length : Nat) : Int) = LL at *
                generalize ((kOf qs.l e.i : Nat) : Int) = AT at *
                simp [llu, c0, ix, ld, nwe, ste, gtt, f2i, ef, l2, em, k3, hk1, i3, eh, hat, v3, hv, agg6, sr, lr, rC, rT, retT, allV]
              · generalize R (d + 4) = r at *
                generalize ((k + 1 : Nat) : Int) = K1 at *
                generalize ((k : Nat) : Int) = K at *
                generalize ((es.length : Nat) : Int) = LL at *
                generalize (if thereP qs.l e.i = true then ((kOf qs.l e.i : Nat) : Int) else -1) = AT at *
                simp [llu, c0, ix, ld, nwe, ste, gtt, f2i, ef, l2, em, k3, hk1, i3, eh, v3, hv, agg6, sr, lr, rC, rT, retT, allV]
              · generalize R (d + 4) = r at *
                generalize ((k + 1 : Nat) : Int) = K1 at *
                generalize ((k : Nat) : Int) = K at *
                generalize ((es.length : Nat) : Int) = LL at *
                generalize (if thereP qs.l e.i = true then ((kOf qs.l e.i : Nat) : Int) else -1) = AT at *
                simp [llu, c0, ix, ld, nwe, ste, gtt, f2i, ef, l2, em, k3, hk1, i3, eh, v3, hv, agg6, sr, lr, rC, rT, retT, allV]
        · rcases (by omega : e.k = 1 ∨ e.k = 2 ∨ e.k = 3 ∨ e.k = 4) with hk1 | hk1 | hk1 | hk1
          · by_cases hi : e.i ∈ qs.ever
            · right
              refine fail 7 (by unfold asksP; rw [if_pos hm, if_pos ⟨hk1, hi⟩]) (by decide) ?_
              rw [decide_eq_true hi] at eh
              clear fail okk hgo'
              unfold f35_l1
              generalize R (d + 4) = r at *
              generalize ((k + 1 : Nat) : Int) = K1 at *
              generalize ((k : Nat) : Int) = K at *
              generalize ((es.length : Nat) : Int) = LL at *
              generalize (if thereP qs.l e.i = true then ((kOf qs.l e.i : Nat) : Int) else -1) = AT at *
              simp [llu, c0, ix, ld, nwe, ste, gtt, f2i, ef, l2, em, k3, hk1, i3, eh, agg6, sr, lr, rC, rT, retT, allV]
            · -- a segment comes
              left
              have h0 : asksP qs e = 0 := asks_zero hm (fun h => hi h.2) (fun h => by omega) hv
              have hnx : nextP qs e = ⟨insL qs.l (infE e), qs.ever ++ [e.i], qs.rule, qs.v, e.v⟩ := by unfold nextP; rw [if_pos hk1]
              rw [decide_eq_false hi] at eh
              have L := Fr.lit 1 H3.wf (n := 1) (vs := [S.int .i64 e.i]) rfl
              obtain ⟨u5, hu5⟩ : ∃ u5, u5 = u3.push (.cells true [S.int .i64 e.i]) := ⟨_, rfl⟩
              rw [← hu5] at L
              have n5 : aNew u3 (nSlice 1 (aFill [.int .i64 0] [(0, 1, I .i64 e.i)])) = some (Z (.sl u3.size 0 1 (.known 1)), u5) := by rw [hu5]; rfl
              have H5 := H3.gr ppb L.gr
              obtain ⟨ev', u6, a6, wf6, z6, ow6, old6, new6⟩ := H5.evs.append (by_ := 8) L.gr.wf (by omega) L.rd.src (by simp) (by omega)
              have z35 := L.gr.2.1
              have evlt : ∀ c, own ev = some c → c < u3.size := fun c hc => (H3.eown c hc).2
              have enb : ∀ c, c < u3.size → own ev ≠ some c → u6.get c = u3.get c := fun c hc hne => by rw [old6 c (by omega) hne]; exact L.gr.2.2 c hc
              have evn : own ev ≠ some n := fun hc => by have := (H.eown n hc).2; omega
              have evp : own ev ≠ some pp := fun hc => by have := (H.eown pp hc).1; omega
              have b6 : u6.get n = some (.cells true (cE e)) := by rw [enb n n3 evn]; exact b3
              have lst6 : RI u6 out qs.l := Rd.keep H3.lst fun c hc => enb c (H3.lown c hc).2 (fun h => H.dis c h hc)
              have lo6 : ∀ c, own out = some c → c < u6.size := fun c hc => by have := (H3.lown c hc).2; omega
              obtain ⟨out', u7, e7, f7⟩ := rinsert_run (d + 3) wf6 lst6 lo6 hll (infE e)
              simp only [Nat.add_assoc, Nat.reduceAdd] at e7
              have f2 : aLoad1 (Z (.ptr n 2)) u6.get = some (I .i64 e.i) := aLoad1_of b6 rfl
              have f3 : aLoad1 (Z (.ptr n 3)) u6.get = some (I .i64 e.t) := aLoad1_of b6 rfl
              have f4 : aLoad1 (Z (.ptr n 4)) u6.get = some (I .i64 e.f) := aLoad1_of b6 rfl
              have f5 : aLoad1 (Z (.ptr n 5)) u6.get = some (I .i64 e.o) := aLoad1_of b6 rfl
              have f6 : aLoad1 (Z (.ptr n 6)) u6.get = some (I .u32 e.u) := aLoad1_of b6 rfl
              have ag : asAggT (aFill [.int .i64 0, .int .i64 0, .int .i64 0, .int .i64 0, .int .u32 0] [(0, 1, I .i64 e.i), (1, 1, I .i64 e.t), (2, 1, I .i64 e.f), (3, 1, I .i64 e.o), (4, 1, I .u32 e.u)]) = some (AI (infE e)) := rfl
              have hle3 := H3.le
              have evo : ∀ c, own ev' = some c → sb.size ≤ c ∧ c < u6.size := fun c hc => by
                have hlt := ow6.lt wf6 hc
                rcases new6 with h | h | ⟨c', h, hc'⟩
                · rw [h] at hc; cases hc
                · rw [h] at hc; exact ⟨(H3.eown c hc).1, hlt⟩
                · rw [h] at hc; cases hc; exact ⟨by omega, hlt⟩
              refine okk out' ev' u7 h0 ?_ ?_
              · rw [hnx]
                refine ⟨f7.gr.wf, by have := f7.gr.2.1; omega, fun c hc hne => ?_, ?_, f7.rd, fun c hc => ⟨by have := (f7.new c hc).1; omega, (f7.new c hc).2⟩, ?_, fun c hc => ⟨(evo c hc).1, Nat.lt_of_lt_of_le (evo c hc).2 f7.gr.2.1⟩, fun c hc hco => ?_⟩
                · rw [f7.gr.2.2 c (by omega), enb c (by omega) (fun h => by have := (H3.eown c h).1; omega)]
                  exact H3.old c hc hne
                · rw [f7.gr.2.2 pp (by omega), enb pp (by omega) evp]; exact H3.rule
                · have h1 : (I64I (qs.ever ++ [e.i])) = I64I qs.ever ++ [S.int .i64 e.i] := by simp [I64I]
                  show Ow 1 u7 ev' (qs.ever ++ [e.i]).length (I64I (qs.ever ++ [e.i]))
                  rw [h1, List.length_append]
                  exact ow6.gr wf6 f7.gr
                · have := (evo c hc).2
                  have := (f7.new c hco).1
                  omega
              · rw [hnx]
                clear fail okk hgo' hnx h0
                unfold f35_l1
                generalize R (d + 4) = r at *
                generalize ((k + 1 : Nat) : Int) = K1 at *
                generalize ((k : Nat) : Int) = K at *
                generalize ((es.length : Nat) : Int) = LL at *
                generalize u3.size = z3 at *
                generalize (if thereP qs.l e.i = true then ((kOf qs.l e.i : Nat) : Int) else -1) = AT at *
                simp [llu, c0, ix, ld, nwe, ste, gtt, f2i, ef, l2, em, k3, hk1, i3, eh, v3, hv, n5, a6, f2, f3, f4, f5, f6, ag, e7, w1]
          · by_cases h9 : thereP qs.l e.i = false
            · right
              refine fail 9 (by unfold asksP; rw [if_pos hm, if_neg (fun h => by omega), if_pos ⟨hk1, h9⟩]) (by decide) ?_
              rw [h9, if_neg (by decide)] at ef
              clear fail okk hgo'
              unfold f35_l1
              generalize R (d + 4) = r at *
              generalize ((k + 1 : Nat) : Int) = K1 at *
              generalize ((k : Nat) : Int) = K at *
              generalize ((es.length : Nat) : Int) = LL at *
              simp [llu, c0, ix, ld, nwe, ste, gtt, f2i, ef, l2, em, k3, hk1, i3, eh, agg6, sr, lr, rC, rT, retT, allV]
            · -- a segment goes
              left
              have hth : thereP qs.l e.i = true := by
                cases ht : thereP qs.l e.i with
                | true => rfl
                | false => exact (h9 ht).elim
              have h0 : asksP qs e = 0 := asks_zero hm (fun h => by omega) (fun h => by rw [hth] at h; exact absurd h.2 (by decide)) hv
              have hnx : nextP qs e = ⟨delL qs.l e.i, qs.ever, qs.rule, qs.v, e.v⟩ := by unfold nextP; rw [if_neg (by omega), if_pos hk1]
              rw [hth, if_pos rfl] at ef
              have hat : ¬ ((kOf qs.l e.i : Nat) : Int) < 0 := by omega
              have klt := kOf_lt hok.up hth
              have w2 : IntKind.i64.wrap (((kOf qs.l e.i : Nat) : Int) + 1) = ((kOf qs.l e.i + 1 : Nat) : Int) := by rw [wrap_in _ (by omega) (by omega)]; omega
              obtain ⟨u5, y1, y, u6, n5, pc1, a6, f6, y2, pc2, ow2, rd2⟩ := split3 H3.wf H3.lst (fun c hc => (H3.lown c hc).2) hll kol (show kOf qs.l e.i + 1 ≤ qs.l.length by omega)
              have o2 : ∀ c, own y2 = some c → c < u3.size := fun c hc => by
                rcases ow2 with h | h
                · rw [h] at hc; cases hc
                · rw [h] at hc; exact (H3.lown c hc).2
              have hdl : (qs.l.drop (kOf qs.l e.i + 1)).length = qs.l.length - (kOf qs.l e.i + 1) := by simp
              have htl : (qs.l.take (kOf qs.l e.i)).length = kOf qs.l e.i := by rw [List.length_take]; omega
              obtain ⟨out', u7, a7, f7, _⟩ := f6.append (by_ := 40) (by omega) (Rd.gr rd2 o2 f6.gr).src (cells_len (e := 5) cI_len _) (by omega)
              have f7' : FI u3 u7 out' (delL qs.l e.i) := by
                have h1 : cells cI (delL qs.l e.i) = cells cI (qs.l.take (kOf qs.l e.i)) ++ cells cI (qs.l.drop (kOf qs.l e.i + 1)) := by simp [delL, cells]
                have h2 : (delL qs.l e.i).length = (qs.l.take (kOf qs.l e.i)).length + (qs.l.drop (kOf qs.l e.i + 1)).length := by simp [delL]
                unfold FI
                rw [h1, h2]
                exact f7
              have H7 := H3.gr ppb f7'.gr
              have hle3 := H3.le
              refine okk out' ev u7 h0 ?_ ?_
              · rw [hnx]
                refine ⟨H7.wf, H7.le, H7.old, H7.rule, f7'.rd, fun c hc => ⟨by have := (f7'.new c hc).1; omega, (f7'.new c hc).2⟩, H7.evs, H7.eown, fun c hc hco => ?_⟩
                have := (H3.eown c hc).2
                have := (f7'.new c hco).1
                omega
              · rw [hnx]
                clear fail okk hgo' hnx h0
                unfold f35_l1
                generalize R (d + 4) = r at *
                generalize ((k + 1 : Nat) : Int) = K1 at *
                generalize ((k : Nat) : Int) = K at *
                generalize ((es.length : Nat) : Int) = LL at *
                generalize ((kOf qs.l e.i + 1 : Nat) : Int) = AT1 at *
                generalize ((kOf qs.l e.i : Nat) : Int) = AT at *
                generalize u3.size = z3 at *
                simp [llu, c0, ix, ld, nwe, ste, gtt, f2i, ef, l2, em, k3, hk1, i3, eh, hat, v3, hv, n5, pc1, a6, w2, pc2, a7, w1]
          · -- a view
            left
            have h0 : asksP qs e = 0 := asks_zero hm (fun h => by omega) (fun h => by omega) hv
            have hnx : nextP qs e = ⟨qs.l, qs.ever, qs.rule, e.v, e.v⟩ := by unfold nextP; rw [if_neg (by omega), if_neg (by omega), if_pos hk1]
            refine okk out ev u3 h0 ?_ ?_
            · rw [hnx]
              exact ⟨H3.wf, H3.le, H3.old, H3.rule, H3.lst, H3.lown, H3.evs, H3.eown, H3.dis⟩
            · rw [hnx]
              clear fail okk hgo' hnx h0
              unfold f35_l1
              generalize R (d + 4) = r at *
              generalize ((k + 1 : Nat) : Int) = K1 at *
              generalize ((k : Nat) : Int) = K at *
              generalize ((es.length : Nat) : Int) = LL at *
              generalize (if thereP qs.l e.i = true then ((kOf qs.l e.i : Nat) : Int) else -1) = AT at *
              simp [llu, c0, ix, ld, nwe, ste, gtt, f2i, ef, l2, em, k3, hk1, i3, eh, v3, hv, w1]
          · -- a rule
            left
            have h0 : asksP qs e = 0 := asks_zero hm (fun h => by omega) (fun h => by omega) hv
            have hnx : nextP qs e = ⟨qs.l, qs.ever, (parseP e.x).1, qs.v, e.v⟩ := by unfold nextP; rw [if_neg (by omega), if_neg (by omega), if_neg (by omega)]
            obtain ⟨u5, e5, g5⟩ := rparse_run (d + 1) H3.wf (l := e.x) (by omega)
            rw [rparseP_eq] at e5
            have H5 := H3.gr ppb g5
            obtain ⟨pr, hpr⟩ : ∃ pr, pr = (parseP e.x).1 := ⟨_, rfl⟩
            simp only [Nat.add_assoc, Nat.reduceAdd, resP] at e5
            rw [← hpr] at e5 hnx
            have sp : aStore 6 (Z (.ptr pp 0)) (AP pr) u5 = some (tt, u5.set pp (.cells true (cP pr))) := store6 H5.rule rfl
            obtain ⟨u6, hu6⟩ : ∃ u6, u6 = u5.set pp (.cells true (cP pr)) := ⟨_, rfl⟩
            rw [← hu6] at sp
            have hp5 := H5.wf.lt H5.rule
            refine okk out ev u6 h0 ?_ ?_
            · rw [hnx]
              refine ⟨by rw [hu6]; exact St.wf_set H5.wf hp5 _, by rw [hu6]; simpa using H5.le, fun c hc hne => by rw [hu6, St.get_set_ne _ _ hne]; exact H5.old c hc hne, by rw [hu6]; exact St.get_set_same _ _ _,
                Rd.keep H5.lst fun c hc => by rw [hu6]; exact St.get_set_ne _ _ (by have := (H5.lown c hc).1; omega), fun c hc => by rw [hu6]; exact H5.lown c hc, H5.evs.keep fun c hc => by rw [hu6]; exact St.get_set_ne _ _ (by have := (H5.eown c hc).1; omega), fun c hc => by rw [hu6]; exact H5.eown c hc, H5.dis⟩
            · rw [hnx]
              clear fail okk hgo' hnx h0
              unfold f35_l1
              generalize R (d + 4) = r at *
              generalize ((k + 1 : Nat) : Int) = K1 at *
              generalize ((k : Nat) : Int) = K at *
              generalize ((es.length : Nat) : Int) = LL at *
              generalize (if thereP qs.l e.i = true then ((kOf qs.l e.i : Nat) : Int) else -1) = AT at *
              simp [llu, c0, ix, ld, nwe, ste, gtt, f2i, ef, l2, em, k3, hk1, i3, eh, v3, hv, x3, e5, aExtract, sp, w1]
      · right
        have hmf : mayE e = false := by cases h : mayE e with
          | true => exact (hm h).elim
          | false => rfl
        rw [hmf] at em
        refine fail 1 (by unfold asksP; rw [if_neg hm]) (by decide) ?_
        clear fail okk hgo'
        unfold f35_l1
        generalize R (d + 4) = r at *
        generalize ((k + 1 : Nat) : Int) = K1 at *
        generalize ((k : Nat) : Int) = K at *
        generalize ((es.length : Nat) : Int) = LL at *
        generalize (if thereP qs.l e.i = true then ((kOf qs.l e.i : Nat) : Int) else -1) = AT at *
        simp [llu, c0, ix, ld, nwe, ste, gtt, f2i, ef, l2, em, agg6, sr, lr, rC, rT, retT, allV]
    · right
      have hau : RE u a es := ha.keep fun c hc => by
        have h1 := hoa c hc
        rw [H.old c (by have := gb.2.1; omega) (by omega)]
        exact gb.2.2 c h1
      have llu := hau.lens
      have hke : k = es.length := by omega
      have c0 : ¬ ((k : Nat) : Int) < ((es.length : Nat) : Int) := by omega
      rw [List.drop_eq_nil_of_le (by omega)] at hgo
      refine ⟨.exit 0 [Z (.ptr rp 0), Z out, Z (.ptr pp 0), I .i64 qs.v], u, ?_, (fun v hv => by cases hv), .inl ⟨qs, out, ev, rfl, H, hgo.symm⟩⟩
      unfold f35_l1
      simp [llu, c0]) 8192 es.length [Z a, Z (.ptr rp 0), Z .nils, Z .nils, Z (.ptr pp 0), I .i64 0, I .i64 0, I .i64 0] sb
    ⟨0, fs0, .nils, .nils, by omega, rfl, ⟨wfb, Nat.le_refl _, fun _ _ _ => rfl, pb, Rd.nil 5 sb, (fun c hc => by cases hc), Ow.nil 1 sb, (fun c hc => by cases hc), fun c hc => by cases hc⟩, fs0_ok, Nat.le_refl _, by rw [List.drop_zero]⟩ (by omega)
  simp only [Nat.add_assoc, Nat.reduceAdd] at e2
  rcases hj with ⟨qs, out, ev, rfl, H, hgo⟩ | ⟨rfl, hne, g⟩
  · have lp6 : aLoadN 6 (Z (.ptr pp 0)) τ.get = some (AP qs.rule) := load6 H.rule
    have rτ : τ.get rp = some (.cells true (cP pol0)) := by rw [H.old rp rpb rpp]; exact rb
    have sr : aStore 6 (Z (.ptr rp 0)) (AP qs.rule) τ = some (tt, τ.set rp (.cells true (cP qs.rule))) := store6 rτ rfl
    obtain ⟨u4, hu4⟩ : ∃ u4, u4 = τ.set rp (.cells true (cP qs.rule)) := ⟨_, rfl⟩
    rw [← hu4] at sr
    have lr : aLoadN 6 (Z (.ptr rp 0)) u4.get = some (AP qs.rule) := load6 (by rw [hu4]; exact St.get_set_same _ _ _)
    have hτ := H.wf.lt rτ
    have hle := H.le
    have hbl := gb.2.1
    refine ⟨out, u4, ?_, ?_, fun _ => ?_⟩
    · rw [hgo]
      have hres : resFo ((0 : Int), qs) out = .tup [.s out, .agg (cP qs.rule), .s (.int .i64 qs.v), .s (.int .i64 0)] := rfl
      rw [hres]
      clear hgo hres
      generalize R (d + 4) = r at *
      simp [nw1, e2, nw3, st4, gtt, lp, lp6, sr, lr, rC, rT, retT, allV]
    · rw [hu4]
      exact ⟨St.wf_set H.wf hτ _, by simp only [St.size_set]; omega, fun c hc => by rw [St.get_set_ne _ _ (by omega), H.old c (by omega) (by omega)]; exact gb.2.2 c hc⟩
    · rw [hgo]
      refine ⟨Rd.keep H.lst fun c hc => by rw [hu4]; exact St.get_set_ne _ _ (by have := (H.lown c hc).1; omega), fun c hc => by rw [hu4]; exact (H.lown c hc).2⟩
  · refine ⟨.nils, τ, ?_, g, fun h => (hne h).elim⟩
    generalize resFo (foldGo fs0 es) .nils = RF at *
    generalize R (d + 4) = r at *
    simp [nw1, e2, nw3, st4, gtt, lp]
end
end Go.Proofs.YtlhbidbdmdcdeaaGreatDoor


/-
  What both Folds tell, side by side. No conditions but those named in each line.
-/
namespace Go.Proofs.YtlhbidbdmdcdeaaGreatDoor
open Go Go.Abs Go.Abs.F
set_option linter.unusedVariables false
section
variable {s t : St} {x y a : S}

def resL (r : Int × FoS) : List Inf := if r.1 = 0 then r.2.l else []
def resQ (r : Int × FoS) : Pol := if r.1 = 0 then r.2.rule else pol0
def resV (r : Int × FoS) : Int := if r.1 = 0 then r.2.v else 0
abbrev resU (r : Int × FoS) (y : S) : T := .tup [.s y, .agg (cP (resQ r)), .s (.int .i64 (resV r)), .s (.int .i64 r.1)]

theorem resU_of {r : Int × FoS} {y : S} {t : St} (h : r.1 = 0 → RI t y r.2.l ∧ ∀ c, own y = some c → c < t.size) : ∃ y', resFo r y = resU r y' ∧ RI t y' (resL r) ∧ ∀ c, own y' = some c → c < t.size := by
  unfold resFo resU resL resQ resV
  by_cases h0 : r.1 = 0
  · refine ⟨y, ?_, ?_⟩
    · rw [if_pos h0, if_pos h0, if_pos h0, h0]
    · rw [if_pos h0]
      exact h h0
  · refine ⟨.nils, ?_, ?_, fun c hc => by cases hc⟩
    · rw [if_neg h0, if_neg h0, if_neg h0]
    · rw [if_neg h0]
      exact Rd.nil 5 t

theorem foldU_run (d : Nat) (wf : s.wf) {es : List Ent} (ha : RE s a es) (hoa : ∀ c, own a = some c → c < s.size) (hl : es.length ≤ 8000) : ∃ y t, R (d + 11) 28 [Z a] s = some (resU (foldGo fs0 es) y, t) ∧ Gr s t ∧
    RI t y (resL (foldGo fs0 es)) ∧ ∀ c, own y = some c → c < t.size := by
  obtain ⟨y, t, e, g, f⟩ := fold_run d wf ha hoa hl
  obtain ⟨y', h1, h2, h3⟩ := resU_of (y := y) (t := t) fun h0 => ⟨(f h0).rd, fun c hc => ((f h0).new c hc).2⟩
  rw [h1] at e
  exact ⟨y', t, e, g, h2, h3⟩

theorem rfoldU_run (d : Nat) (wf : s.wf) {es : List Ent} (ha : RE s a es) (hoa : ∀ c, own a = some c → c < s.size) (hl : es.length ≤ 8000) (hx : ∀ e ∈ es, e.x.length ≤ 8000) : ∃ y t, R (d + 5) 35 [Z a] s = some (resU (foldGo fs0 es) y, t) ∧ Gr s t ∧
    RI t y (resL (foldGo fs0 es)) ∧ ∀ c, own y = some c → c < t.size := by
  obtain ⟨y, t, e, g, f⟩ := rfold_run d wf ha hoa hl hx
  obtain ⟨y', h1, h2, h3⟩ := resU_of (y := y) (t := t) f
  rw [h1] at e
  exact ⟨y', t, e, g, h2, h3⟩

theorem aEqP (a b : Pol) : aEq (.a 6 [(0, .i), (1, .i), (2, .i), (3, .i), (4, .i), (5, .i)]) (AP a) (AP b) = some (decide (a = b)) := by
  obtain ⟨a1, a2, a3, a4, a5, a6⟩ := a
  obtain ⟨b1, b2, b3, b4, b5, b6⟩ := b
  show some (decide (a1 = b1) && (decide (a2 = b2) && (decide (a3 = b3) && (decide (a4 = b4) && (decide (a5 = b5) && (decide (a6 = b6) && true)))))) = some (decide (Pol.mk a1 a2 a3 a4 a5 a6 = Pol.mk b1 b2 b3 b4 b5 b6))
  simp only [Pol.mk.injEq, Bool.and_true, Bool.decide_and]
theorem eqBP (a b : Pol) : eqB (.a 6 [(0, .i), (1, .i), (2, .i), (3, .i), (4, .i), (5, .i)]) (AP a) (AP b) = some (B (decide (a = b))) := by simp only [eqB, aEqP]
end
end Go.Proofs.YtlhbidbdmdcdeaaGreatDoor


/-
  LogTorn: what stands whole in a torn row is read. No conditions but those named in each line.
-/
namespace Go.Proofs.YtlhbidbdmdcdeaaGreatDoor
open Go Go.Abs Go.Abs.F
set_option linter.unusedVariables false

section
variable {s t : St} {x y : S} {bs cs : Bs} {i : Nat} {l m : List Ent}

end
end Go.Proofs.YtlhbidbdmdcdeaaGreatDoor


/-
  EntryTwice, run. No conditions but those named in each line.
-/
namespace Go.Proofs.YtlhbidbdmdcdeaaGreatDoor
open Go Go.Abs Go.Abs.F
set_option linter.unusedVariables false
section
variable {s t : St} {x y : S} {l : List Ent}

theorem polBox (wf : s.wf) (p : Pol) : ∃ s1 s2, aNew s (nCells [.int .i64 0, .int .i64 0, .int .i64 0, .int .i64 0, .int .i64 0, .int .i64 0]) = some (Z (.ptr s.size 0), s1) ∧ aStore 6 (Z (.ptr s.size 0)) (AP p) s1 = some (tt, s2) ∧ Gr s s2 ∧
    s2.get s.size = some (.cells true (cP p)) ∧ s.size < s2.size := by
  have b0 : (s.push (.cells true (cP pol0))).get s.size = some (.cells true (cP pol0)) := St.get_push_same _ _
  exact ⟨s.push (.cells true (cP pol0)), _, rfl, store6 b0 rfl, ⟨St.wf_set (St.wf_push wf _) (by simp) _, by simp, fun c hc => by rw [St.get_set_ne _ _ (by omega), St.get_push_ne _ _ (by omega)]⟩, St.get_set_same _ _ _, by simp⟩

end
end Go.Proofs.YtlhbidbdmdcdeaaGreatDoor


/-
  The document's numbers and sums: what the functions compute, in any store. No conditions but those named in each line.
-/
namespace Go.Proofs.YtlhbidbdmdcdeaaGreatDoor
open Go Go.Abs Go.Abs.F
set_option linter.unusedVariables false
section
variable {s t : St} {x y : S} {bs cs : List UInt8}

theorem rvput_run (d : Nat) (wf : s.wf) (n : Nat) (hn : n < 2 ^ 64) : ∃ t, R (d + 1) 43 [I .u64 n] s = some (Z (.str (vput n)), t) ∧ Gr s t := by
  rw [f43_run]
  unfold f43
  obtain ⟨m, x, acc, τ, lp, hF, hm, hacc⟩ := vput_loop (R d) wf n hn
  have lp' : loops (f43_l1 (R d) 8192) 8192 [I .u64 n, Z .nils] s = some (.exit 0 [I .u64 m, Z x], τ) := lp
  have nw := lit1 τ m
  have hb : (UInt8.ofNat m).toNat = m := by rw [byte_nat]; omega
  obtain ⟨x', t, ap, hF', _⟩ := FB.lit hF (cs := [UInt8.ofNat m]) (by simp; omega)
  rw [hacc.1] at hF'
  refine ⟨t, ?_, hF'.gr⟩
  have hw : IntKind.u8.wrap (m : Int) = (m : Int) := by rw [wrap8]; omega
  have hs := RB.str hF'.rd
  simp only [U, List.map_cons, List.map_nil, List.length_cons, List.length_nil, Nat.zero_add, hb] at ap
  simp [lp', hw, nw, ap, hs]

theorem rgetN_run (r : CallF) (N : Nat) (hl : bs.length ≤ 100000) {at_ : Nat} (ha : at_ ≤ 100000) (res : Option (Nat × Nat)) (hres : getN bs at_ 10 0 0 = res) :
    loops (f42_l1 r N) 8192 [Z (.str bs), I .i64 at_, I .u64 0, I .i64 0] s = some (vjo at_ res, s) := by
  obtain ⟨j, τ, lp, hj, hτ⟩ := loops_inv (f := f42_l1 r N) (fun q v u => ∃ k n : Nat, q + k = 10 ∧ v = [Z (.str bs), I .i64 at_, I .u64 n, I .i64 k] ∧ u = s ∧ n < 2 ^ 64 ∧ getN bs at_ q k n = res)
    (fun j u => j = vjo at_ res ∧ u = s) (by
    rintro q v u ⟨k, n, hk, rfl, rfl, hn, hg⟩
    have hll := len_str bs
    cases q with
    | zero =>
      right
      have hk' : k = 10 := by omega
      subst hk'
      have : res = none := by rw [← hg]; rfl
      subst this
      refine ⟨.exit 0 [I .i64 at_], u, ?_, (fun v hv => by cases hv), rfl, rfl⟩
      unfold f42_l1
      simp
    | succ q =>
      have c0 : ((k : Int) < 10) = True := eq_true (by omega)
      have w0 : IntKind.i64.wrap ((at_ : Int) + k) = ((at_ + k : Nat) : Int) := by rw [wrap_in _ (by omega) (by omega)]; omega
      unfold getN at hg
      cases hc : bs[at_ + k]? with
      | none =>
        rw [hc] at hg
        subst hg
        right
        have hle : bs.length ≤ at_ + k := by simpa using hc
        have c1 : (((at_ + k : Nat) : Int) < (bs.length : Int)) = False := eq_false (by omega)
        refine ⟨.exit 0 [I .i64 at_], u, ?_, (fun v hv => by cases hv), rfl, rfl⟩
        unfold f42_l1
        generalize ((at_ + k : Nat) : Int) = A at w0 c1 ⊢
        generalize (k : Int) = K at *
        simp [c0, w0, hll, c1]
      | some c =>
        rw [hc] at hg
        simp only at hg
        have hlt := (List.getElem?_eq_some_iff.1 hc).1
        have c1 : (((at_ + k : Nat) : Int) < (bs.length : Int)) = True := eq_true (by omega)
        have ix := at_str (n := ((at_ + k : Nat) : Int)) rfl hc
        have hcb : c.toNat < 256 := c.toNat_lt
        have hcv : IntKind.u64.wrap (c.toNat : Int) = (c.toNat : Int) := wrap64 _ (by omega)
        have hand : aBin .and (I .u64 c.toNat) (I .u64 127) = some (I .u64 (c.toNat % 128 : Nat)) := by
          have := and_u64 c.toNat 127 (by omega) (by decide)
          rw [show (c.toNat &&& 127 : Nat) = c.toNat % 128 from Nat.and_two_pow_sub_one_eq_mod c.toNat 7] at this
          exact this
        have hm7 : IntKind.i64.wrap (7 * (k : Int)) = ((7 * k : Nat) : Int) := by rw [wrap_in _ (by omega) (by omega)]; omega
        have hm8 : IntKind.u64.wrap ((7 * k : Nat) : Int) = ((7 * k : Nat) : Int) := wrap64 _ (by omega)
        have w1 : IntKind.i64.wrap ((k : Int) + 1) = ((k + 1 : Nat) : Int) := by rw [wrap_in _ (by omega) (by omega)]; omega
        have w2 : IntKind.i64.wrap (((at_ + k : Nat) : Int) + 1) = ((at_ + k + 1 : Nat) : Int) := by rw [wrap_in _ (by omega) (by omega)]; omega
        by_cases h9 : k = 9 ∧ 1 < c.toNat
        · rw [if_pos h9] at hg
          subst hg
          right
          have d9 : ((k : Int) = 9) = True := eq_true (by omega)
          have d1 : ((1 : Int) < (c.toNat : Int)) = True := eq_true (by omega)
          refine ⟨.exit 0 [I .i64 at_], u, ?_, (fun v hv => by cases hv), rfl, rfl⟩
          unfold f42_l1
          generalize ((at_ + k : Nat) : Int) = A at w0 c1 ix ⊢
          generalize (k : Int) = K at *
          generalize (c.toNat : Int) = C at *
          simp [c0, w0, hll, c1, ix, hcv, d9, d1]
        · rw [if_neg h9] at hg
          have hpow : c.toNat % 128 * 2 ^ (7 * k) < 2 ^ 64 := by
            by_cases e9 : k = 9
            · subst e9
              have : c.toNat % 128 ≤ 1 := by omega
              calc c.toNat % 128 * 2 ^ (7 * 9) ≤ 1 * 2 ^ 63 := Nat.mul_le_mul_right _ this
                _ < 2 ^ 64 := by decide
            · have hk8 : 7 * k ≤ 56 := by omega
              have h128 : c.toNat % 128 < 2 ^ 7 := by omega
              calc c.toNat % 128 * 2 ^ (7 * k) ≤ c.toNat % 128 * 2 ^ 56 := Nat.mul_le_mul_left _ (Nat.pow_le_pow_right (by omega) hk8)
                _ < 2 ^ 64 := by omega
          have hshl := shl_u64 (c.toNat % 128) (7 * k) hpow (by omega)
          have hor := or_u64 n (c.toNat % 128 * 2 ^ (7 * k)) hn hpow
          have hn' : (n ||| c.toNat % 128 * 2 ^ (7 * k)) < 2 ^ 64 := Nat.or_lt_two_pow hn hpow
          obtain ⟨M, hM⟩ : ∃ M, M = (n ||| c.toNat % 128 * 2 ^ (7 * k)) := ⟨_, rfl⟩
          rw [← hM] at hor hn' hg
          have hcase : ((k : Int) = 9) = False ∨ (((k : Int) = 9) = True ∧ ((1 : Int) < (c.toNat : Int)) = False) := by
            by_cases e9 : k = 9
            · exact .inr ⟨eq_true (by omega), eq_false (fun h => h9 ⟨e9, by omega⟩)⟩
            · exact .inl (eq_false (by omega))
          by_cases h128 : 128 ≤ c.toNat
          · rw [if_pos h128] at hg
            left
            have d1 : ((c.toNat : Int) < (128 : Int)) = False := eq_false (by omega)
            refine ⟨[Z (.str bs), I .i64 at_, I .u64 M, I .i64 ((k + 1 : Nat) : Int)], u, q, ?_, rfl, k + 1, M, by omega, rfl, rfl, hn', hg⟩
            generalize ((k + 1 : Nat) : Int) = K1 at w1 ⊢
            unfold f42_l1
            generalize ((c.toNat % 128 * 2 ^ (7 * k) : Nat) : Int) = SH at hshl hor
            generalize ((c.toNat % 128 : Nat) : Int) = L at hand hshl
            generalize ((7 * k : Nat) : Int) = K7 at hm7 hm8 hshl
            generalize ((at_ + k : Nat) : Int) = A at w0 c1 ix
            generalize (k : Int) = K at *
            generalize (c.toNat : Int) = C at *
            rcases hcase with e9 | ⟨e9, e1⟩
            · simp [c0, w0, hll, c1, ix, hcv, e9, hand, hm7, hm8, hshl, hor, d1, w1]
            · simp [c0, w0, hll, c1, ix, hcv, e9, e1, hand, hm7, hm8, hshl, hor, d1, w1]
          · rw [if_neg h128] at hg
            right
            have d1 : ((c.toNat : Int) < (128 : Int)) = True := eq_true (by omega)
            by_cases hz : 0 < k ∧ c.toNat = 0
            · rw [if_pos hz] at hg
              subst hg
              have d2 : ((0 : Int) < (k : Int)) = True := eq_true (by omega)
              have d3 : ((c.toNat : Int) = 0) = True := eq_true (by omega)
              refine ⟨.exit 0 [I .i64 at_], u, ?_, (fun v hv => by cases hv), rfl, rfl⟩
              unfold f42_l1
              generalize ((c.toNat % 128 * 2 ^ (7 * k) : Nat) : Int) = SH at hshl hor
              generalize ((c.toNat % 128 : Nat) : Int) = L at hand hshl
              generalize ((7 * k : Nat) : Int) = K7 at hm7 hm8 hshl
              generalize ((at_ + k : Nat) : Int) = A at w0 c1 ix
              generalize (k : Int) = K at *
              generalize (c.toNat : Int) = C at *
              rcases hcase with e9 | ⟨e9, e1⟩
              · simp [c0, w0, hll, c1, ix, hcv, e9, hand, hm7, hm8, hshl, hor, d1, d2, d3]
              · simp [c0, w0, hll, c1, ix, hcv, e9, e1, hand, hm7, hm8, hshl, hor, d1, d2, d3]
            · rw [if_neg hz] at hg
              subst hg
              refine ⟨.ret (.tup [.s (.int .u64 M), .s (.int .i64 ((at_ + k + 1 : Nat) : Int)), .s (.int .i64 0)]), u, ?_, (fun v hv => by cases hv), rfl, rfl⟩
              have hcase2 : ((c.toNat : Int) = 0) = False ∨ (((c.toNat : Int) = 0) = True ∧ ((0 : Int) < (k : Int)) = False) := by
                by_cases e0 : c.toNat = 0
                · exact .inr ⟨eq_true (by omega), eq_false (fun h => hz ⟨by omega, e0⟩)⟩
                · exact .inl (eq_false (by omega))
              unfold f42_l1
              generalize ((c.toNat % 128 * 2 ^ (7 * k) : Nat) : Int) = SH at hshl hor
              generalize ((c.toNat % 128 : Nat) : Int) = L at hand hshl
              generalize ((7 * k : Nat) : Int) = K7 at hm7 hm8 hshl
              generalize ((at_ + k + 1 : Nat) : Int) = A1 at w2 ⊢
              generalize ((at_ + k : Nat) : Int) = A at w0 w2 c1 ix
              generalize (k : Int) = K at *
              generalize (c.toNat : Int) = C at *
              rcases hcase with e9 | ⟨e9, e1⟩ <;> rcases hcase2 with d2 | ⟨d2, d3⟩
              · simp [c0, w0, hll, c1, ix, hcv, e9, hand, hm7, hm8, hshl, hor, d1, d2, w2, retT, allV]
              · simp [c0, w0, hll, c1, ix, hcv, e9, hand, hm7, hm8, hshl, hor, d1, d2, d3, w2, retT, allV]
              · simp [c0, w0, hll, c1, ix, hcv, e9, e1, hand, hm7, hm8, hshl, hor, d1, d2, w2, retT, allV]
              · simp [c0, w0, hll, c1, ix, hcv, e9, e1, hand, hm7, hm8, hshl, hor, d1, d2, d3, w2, retT, allV]) 8192 10 [Z (.str bs), I .i64 at_, I .u64 0, I .i64 0] s ⟨0, 0, rfl, rfl, rfl, by decide, hres⟩ (by omega)
  subst hτ
  subst hj
  exact lp

theorem rget_run (d : Nat) (hl : bs.length ≤ 100000) {at_ : Nat} (ha : at_ ≤ 100000) : R (d + 1) 42 [Z (.str bs), I .i64 at_] s = some (vres at_ bs.length (vget bs at_), s) := by
  rw [f42_run]
  unfold f42
  have hll := len_str bs
  have c0 : ¬ (at_ : Int) < 0 := by omega
  by_cases hle : at_ ≤ bs.length
  · have c1 : ¬ (bs.length : Int) < (at_ : Int) := by omega
    have lp := rgetN_run (s := s) (R d) 8192 hl ha _ rfl
    unfold vget
    rw [if_pos hle]
    cases hg : getN bs at_ 10 0 0 with
    | none =>
      rw [hg] at lp
      simp [c0, c1, hll, lp, vjo, vres, hle, retT, allV]
    | some p =>
      obtain ⟨n, e⟩ := p
      rw [hg] at lp
      simp [c0, c1, hll, lp, vjo, vres]
  · have c1 : (bs.length : Int) < (at_ : Int) := by omega
    unfold vget
    rw [if_neg hle]
    simp [c0, c1, hll, vres, hle, retT, allV]

end
end Go.Proofs.YtlhbidbdmdcdeaaGreatDoor


/-
  The document's own bytes of entries. No conditions but those named in each line.
-/
namespace Go.Proofs.YtlhbidbdmdcdeaaGreatDoor
open Go Go.Abs Go.Abs.F
set_option linter.unusedVariables false
section
variable {s t : St} {x y : S} {l : Bs} {i c : Nat}

abbrev resS (o : Option Bs) : T := match o with
  | some b => .tup [.s (.str b), .s (.int .i64 0)]
  | none => .tup [.s (.str []), .s (.int .i64 1)]

set_option maxHeartbeats 4000000 in
theorem rput_run (d : Nat) (wf : s.wf) (e : Ent) (hw : EWf e) (hx : e.x.length ≤ 8000) : ∃ t, R (d + 5) 32 [AE e] s = some (resS (putE e), t) ∧ Gr s t := by
  rw [f32_run]
  unfold f32
  obtain ⟨n, hn⟩ : ∃ n, n = s.size := ⟨_, rfl⟩
  obtain ⟨s1, hs1⟩ : ∃ s1, s1 = s.push (.cells true (cE e)) := ⟨_, rfl⟩
  have nw1 : aNew s (nBox (AE e)) = some (Z (.ptr n 0), s1) := by rw [hs1, hn]; rfl
  have g1 : Gr s s1 := by rw [hs1]; exact Gr.push wf _
  have z1 : s1.size = n + 1 := by rw [hs1, hn]; rfl
  have b1 : s1.get n = some (.cells true (cE e)) := by rw [hs1, hn]; exact St.get_push_same _ _
  have l8 := load8 (g := s1.get) b1
  obtain ⟨s2, e2, g2⟩ := rmayE_run d g1.wf e hx
  cases hm : mayE e with
  | false =>
    rw [hm] at e2
    have hp : putE e = none := by unfold putE; rw [hm]; rfl
    rw [hp]
    refine ⟨s2, ?_, g1.trans g2⟩
    generalize R (d + 4) = r at *
    simp [nw1, l8, e2, retT, allV]
  | true =>
    rw [hm] at e2
    have hp : putE e = some (putB e) := by unfold putE; rw [hm]; rfl
    rw [hp]
    obtain ⟨r1, r2, r3, r4, hk1, hk2, hk3, hk4⟩ := mayE_range hm
    have keep : ∀ {u : St}, Gr s1 u → ∀ (j : Nat) (v : S), (cE e)[j]? = some v → aLoad1 (Z (.ptr n j)) u.get = some (Z v) := fun g j v hv => aLoad1_of (g.get b1 g1.wf) hv
    have fa : ∀ j, aFieldAddr j (Z (.ptr n 0)) = some (Z (.ptr n j)) := fun j => by simp [aFieldAddr]
    have wk : IntKind.u8.wrap e.k = ((UInt8.ofNat e.k.toNat).toNat : Int) := by
      have := wrap8 e.k.toNat
      rw [show ((e.k.toNat : Nat) : Int) = e.k by omega] at this
      rw [this, byte_nat]
    obtain ⟨kb, hkb⟩ : ∃ kb, kb = UInt8.ofNat e.k.toNat := ⟨_, rfl⟩
    rw [← hkb] at wk
    obtain ⟨s4, hs4⟩ : ∃ s4, s4 = s2.push (.cells true (U [kb])) := ⟨_, rfl⟩
    have nw4 : aNew s2 (nSlice 1 (aFill [.int .u8 0] [(0, 1, I .u8 kb.toNat)])) = some (Z (.sl s2.size 0 1 (.known 1)), s4) := by rw [hs4, lit1]; rfl
    have f4 : FB s2 s4 (.sl s2.size 0 1 (.known 1)) [kb] := by rw [hs4]; exact Fr.lit 1 g2.wf rfl
    have bs4 : aBytesStr (Z (.sl s2.size 0 1 (.known 1))) s4.get = some (Z (.str [kb])) := RB.str f4.rd
    obtain ⟨s5, e5, g5⟩ := rvput_run (d + 3) f4.gr.wf e.v.toNat (by omega)
    have bs5 : aBytesStr (Z (.sl s2.size 0 1 (.known 1))) s5.get = some (Z (.str [kb])) := RB.str (Rd.gr f4.rd (fun c hc => (f4.new c hc).2) g5)
    have wv : IntKind.u64.wrap e.v = (e.v.toNat : Int) := by rw [wrap_u64_in _ (by omega) (by omega)]; omega
    have g14 := g2.trans f4.gr
    have g15 := g14.trans g5
    have lk2 := keep g2 0 _ rfl
    have lv4 := keep g14 1 _ rfl
    have lk5 := keep g15 0 _ rfl
    have hov : overlay 9 s5.get (ovO 3 s2.size (nSlice 1 (aFill [.int .u8 0] [(0, 1, I .u8 kb.toNat)])) []) = s5.get := rfl
    have vl := vput_len e.v.toNat
    have ad1 : aBin .add (Z (.str [kb])) (Z (.str (vput e.v.toNat))) = some (Z (.str ([kb] ++ vput e.v.toNat))) := str_add _ _ (by simp; omega)
    have hA : ([kb] ++ vput e.v.toNat).length ≤ 12 := by simp; omega
    have hB : putB e = ([kb] ++ vput e.v.toNat) ++ putNs (nums e) ++ e.x := by rw [hkb]; simp [putB]
    obtain ⟨acc, hacc⟩ : ∃ acc, acc = [kb] ++ vput e.v.toNat := ⟨_, rfl⟩
    rw [← hacc] at ad1 hA hB
    simp only [Nat.add_assoc, Nat.reduceAdd] at e5
    have num : ∀ (u : St) (a : Bs) (m : Nat), Gr s1 u → a.length ≤ 1000 → m < 2 ^ 64 → ∃ u', R (d + 4) 43 [I .u64 m] u = some (Z (.str (vput m)), u') ∧ aBin .add (Z (.str a)) (Z (.str (vput m))) = some (Z (.str (a ++ vput m))) ∧ Gr s1 u' := fun u a m g ha hm => by
      obtain ⟨u', e, g'⟩ := rvput_run (d + 3) g.wf m hm
      have := vput_len m
      exact ⟨u', e, str_add _ _ (by omega), g.trans g'⟩
    have eqf : ∀ m : Int, ¬ e.k = m → aBin .eql (I .i64 e.k) (I .i64 m) = some (B false) := fun m h => by rw [eql_int, decide_eq_false h]
    have eqt : ∀ m : Int, e.k = m → aBin .eql (I .i64 e.k) (I .i64 m) = some (B true) := fun m h => by rw [eql_int, decide_eq_true h]
    rcases (by omega : e.k = 1 ∨ e.k = 2 ∨ e.k = 3 ∨ e.k = 4) with hk | hk | hk | hk
    · obtain ⟨hxx, i0, i1, t0, t1, f0, f1, o1⟩ := hk1 hk
      obtain ⟨w0, w1⟩ := hw
      have wi : IntKind.u64.wrap e.i = (e.i.toNat : Int) := by rw [wrap_u64_in _ (by omega) (by omega)]; omega
      have wt : IntKind.u64.wrap e.t = (e.t.toNat : Int) := by rw [wrap_u64_in _ (by omega) (by omega)]; omega
      have wf : IntKind.u64.wrap e.f = (e.f.toNat : Int) := by rw [wrap_u64_in _ (by omega) (by omega)]; omega
      have wo : IntKind.u64.wrap e.o = (e.o.toNat : Int) := by rw [wrap_u64_in _ (by omega) (by omega)]; omega
      have wu : IntKind.u64.wrap e.u = (e.u.toNat : Int) := by rw [wrap_u64_in _ (by omega) (by omega)]; omega
      obtain ⟨u6, e6, a6, g6⟩ := num s5 (acc) e.i.toNat g15 (by   omega) (by omega)
      obtain ⟨u7, e7, a7, g7⟩ := num u6 (acc ++ vput e.i.toNat) e.t.toNat g6 (by have := vput_len e.i.toNat; simp only [List.length_append]; omega) (by omega)
      obtain ⟨u8, e8, a8, g8⟩ := num u7 (acc ++ vput e.i.toNat ++ vput e.t.toNat) e.f.toNat g7 (by have := vput_len e.i.toNat; have := vput_len e.t.toNat; simp only [List.length_append]; omega) (by omega)
      obtain ⟨u9, e9, a9, g9⟩ := num u8 (acc ++ vput e.i.toNat ++ vput e.t.toNat ++ vput e.f.toNat) e.o.toNat g8 (by have := vput_len e.i.toNat; have := vput_len e.t.toNat; have := vput_len e.f.toNat; simp only [List.length_append]; omega) (by omega)
      obtain ⟨u10, e10, a10, g10⟩ := num u9 (acc ++ vput e.i.toNat ++ vput e.t.toNat ++ vput e.f.toNat ++ vput e.o.toNat) e.u.toNat g9 (by have := vput_len e.i.toNat; have := vput_len e.t.toNat; have := vput_len e.f.toNat; have := vput_len e.o.toNat; simp only [List.length_append]; omega) (by omega)
      have hres : putB e = acc ++ vput e.i.toNat ++ vput e.t.toNat ++ vput e.f.toNat ++ vput e.o.toNat ++ vput e.u.toNat := by
        rw [hB, hxx]
        simp [nums, hk, putNs]
      have L2s5 := keep g15 2 _ rfl
      have L3s5 := keep g15 3 _ rfl
      have L3u6 := keep g6 3 _ rfl
      have L4s5 := keep g15 4 _ rfl
      have L4u6 := keep g6 4 _ rfl
      have L4u7 := keep g7 4 _ rfl
      have L5s5 := keep g15 5 _ rfl
      have L5u6 := keep g6 5 _ rfl
      have L5u7 := keep g7 5 _ rfl
      have L5u8 := keep g8 5 _ rfl
      have L6s5 := keep g15 6 _ rfl
      have L6u6 := keep g6 6 _ rfl
      have L6u7 := keep g7 6 _ rfl
      have L6u8 := keep g8 6 _ rfl
      have L6u9 := keep g9 6 _ rfl
      have E1 := eqt 1 hk
      refine ⟨u10, ?_, g1.trans g10⟩
      rw [hres]
      generalize acc ++ vput e.i.toNat ++ vput e.t.toNat ++ vput e.f.toNat ++ vput e.o.toNat ++ vput e.u.toNat = A10 at *
      generalize acc ++ vput e.i.toNat ++ vput e.t.toNat ++ vput e.f.toNat ++ vput e.o.toNat = A9 at *
      generalize acc ++ vput e.i.toNat ++ vput e.t.toNat ++ vput e.f.toNat = A8 at *
      generalize acc ++ vput e.i.toNat ++ vput e.t.toNat = A7 at *
      generalize acc ++ vput e.i.toNat = A6 at *
      clear num hA hB vl r1 r2 keep
      generalize ((e.v.toNat : Nat) : Int) = EV at *
      generalize ((e.i.toNat : Nat) : Int) = Ni at *
      generalize ((e.t.toNat : Nat) : Int) = Nt at *
      generalize ((e.f.toNat : Nat) : Int) = Nf at *
      generalize ((e.o.toNat : Nat) : Int) = No at *
      generalize ((e.u.toNat : Nat) : Int) = Nu at *
      generalize R (d + 4) = r at *
      simp [-eql_int, nw1, l8, e2, fa, lk2, wk, nw4, bs4, lv4, wv, e5, ad1, hov, lk5, bs5, E1, L2s5, L3s5, L3u6, L4s5, L4u6, L4u7, L5s5, L5u6, L5u7, L5u8, L6s5, L6u6, L6u7, L6u8, L6u9, wi, wt, wf, wo, wu, e6, e7, e8, e9, e10, a6, a7, a8, a9, a10, retT, allV]
    · obtain ⟨q1, q2, q3⟩ := hk2 hk
      have wi : IntKind.u64.wrap e.i = (e.i.toNat : Int) := by rw [wrap_u64_in _ (by omega) (by omega)]; omega
      obtain ⟨u6, e6, a6, g6⟩ := num s5 acc e.i.toNat g15 (by omega) (by omega)
      have hres : putB e = acc ++ vput e.i.toNat := by
        have hxx : e.x = [] := by rw [q3]; rfl
        rw [hB, hxx]
        simp [nums, hk, putNs]
      have l2 := keep g15 2 _ rfl
      refine ⟨u6, ?_, g1.trans g6⟩
      rw [hres]
      clear num hA hB vl r1 r2 keep
      generalize ((e.v.toNat : Nat) : Int) = EV at *
      generalize ((e.i.toNat : Nat) : Int) = EI at *
      generalize R (d + 4) = r at *
      have E1 := eqf 1 (by omega)
      have E2 := eqt 2 hk
      simp [-eql_int, nw1, l8, e2, fa, lk2, wk, nw4, bs4, lv4, wv, e5, ad1, hov, lk5, bs5, E1, E2, l2, wi, e6, a6, retT, allV]
    · have hres : putB e = acc := by
        have hxx : e.x = [] := by rw [(hk3 hk).2]; rfl
        rw [hB, hxx]
        simp [nums, hk, putNs]
      refine ⟨s5, ?_, g1.trans g15⟩
      rw [hres]
      clear num hA hB vl r1 r2 keep
      generalize ((e.v.toNat : Nat) : Int) = EV at *
      generalize ((e.i.toNat : Nat) : Int) = EI at *
      generalize R (d + 4) = r at *
      have E1 := eqf 1 (by omega)
      have E2 := eqf 2 (by omega)
      have E4 := eqf 4 (by omega)
      simp [-eql_int, nw1, l8, e2, fa, lk2, wk, nw4, bs4, lv4, wv, e5, ad1, hov, lk5, bs5, E1, E2, E4, retT, allV]
    · obtain ⟨q1, q2, q3⟩ := hk4 hk
      obtain ⟨u6, e6, a6, g6⟩ := num s5 acc e.x.length g15 (by omega) (by omega)
      have hres : putB e = acc ++ vput e.x.length ++ e.x := by
        rw [hB]
        simp [nums, hk, putNs]
      have l7 := keep g15 7 _ rfl
      have l7' := keep g6 7 _ rfl
      have hl : aLenStr (Z (.str e.x)) = some (I .i64 ((e.x.length : Nat) : Int)) := rfl
      have wx : IntKind.u64.wrap ((e.x.length : Nat) : Int) = ((e.x.length : Nat) : Int) := wrap64 _ (by omega)
      have a7 : aBin .add (Z (.str (acc ++ vput e.x.length))) (Z (.str e.x)) = some (Z (.str (acc ++ vput e.x.length ++ e.x))) := str_add _ _ (by have := vput_len e.x.length; simp; omega)
      refine ⟨u6, ?_, g1.trans g6⟩
      rw [hres]
      generalize acc ++ vput e.x.length ++ e.x = A7 at *
      generalize acc ++ vput e.x.length = A6 at *
      have E1 := eqf 1 (by omega)
      have E2 := eqf 2 (by omega)
      have E4 := eqt 4 hk
      generalize ((e.x.length : Nat) : Int) = XL at *
      clear num hA hB vl r1 r2 keep
      generalize ((e.v.toNat : Nat) : Int) = EV at *
      generalize ((e.i.toNat : Nat) : Int) = EI at *
      generalize R (d + 4) = r at *
      simp [-eql_int, nw1, l8, e2, fa, lk2, wk, nw4, bs4, lv4, wv, e5, ad1, hov, lk5, bs5, E1, E2, E4, l7, hl, wx, e6, a6, l7', a7, retT, allV]
end
end Go.Proofs.YtlhbidbdmdcdeaaGreatDoor


/-
  The document's own frames. No conditions but those named in each line.
-/
namespace Go.Proofs.YtlhbidbdmdcdeaaGreatDoor
open Go Go.Abs Go.Abs.F
set_option linter.unusedVariables false
section
variable {s t : St} {x y : S} {l m : List Ent} {i c : Nat}

end
end Go.Proofs.YtlhbidbdmdcdeaaGreatDoor


/-
  The document's own Meet, Front and SameEntries. No conditions but those named in each line.
-/
namespace Go.Proofs.YtlhbidbdmdcdeaaGreatDoor
open Go Go.Abs Go.Abs.F
set_option linter.unusedVariables false
section
variable {s t : St} {x y : S} {l m : List Ent} {i c : Nat}

end
end Go.Proofs.YtlhbidbdmdcdeaaGreatDoor


/-
  The document's own reader of bytes: a byte, a number, a text. No conditions but those named in each line.
-/
namespace Go.Proofs.YtlhbidbdmdcdeaaGreatDoor
open Go Go.Abs Go.Abs.F
set_option linter.unusedVariables false

abbrev cC (b : Bs) (at_ : Nat) (bad : Bool) : List S := [.str b, .int .i64 (at_ : Nat), .bool bad]
def rnum (b : Bs) (at_ : Nat) (bad : Bool) : Nat × Nat × Bool := if bad then (0, at_, true) else match vget b at_ with
  | some (n, e) => (n, e, false)
  | none => (0, at_, true)

section
variable {s t : St} {x y : S} {b : Bs} {i c : Nat}

theorem rnum_run (d : Nat) (wf : s.wf) {at_ : Nat} {bad : Bool} (hc : s.get c = some (.cells true (cC b at_ bad))) (hl : b.length ≤ 100000) (ha : at_ ≤ b.length) :
    ∃ t, R (d + 2) 58 [Z (.ptr c 0)] s = some (I .u64 ((rnum b at_ bad).1 : Nat), t) ∧ t.get c = some (.cells true (cC b (rnum b at_ bad).2.1 (rnum b at_ bad).2.2)) ∧ But c s t ∧ (rnum b at_ bad).2.1 ≤ b.length := by
  rw [f58_run]
  unfold f58
  have an : aNil (Z (.ptr c 0)) = some (Z (.ptr c 0)) := rfl
  have fa : ∀ j, aFieldAddr j (Z (.ptr c 0)) = some (Z (.ptr c j)) := fun j => by simp [aFieldAddr]
  have l0 : aLoad1 (Z (.ptr c 0)) s.get = some (Z (.str b)) := aLoad1_of hc rfl
  have l1 : aLoad1 (Z (.ptr c 1)) s.get = some (I .i64 (at_ : Nat)) := aLoad1_of hc rfl
  have l2 : aLoad1 (Z (.ptr c 2)) s.get = some (B bad) := aLoad1_of hc rfl
  have hcl := wf.lt hc
  cases bad with
  | true =>
    refine ⟨s, ?_, hc, ⟨wf, Nat.le_refl _, fun _ _ _ => rfl⟩, ha⟩
    simp [an, fa, l2, rnum]
  | false =>
    have e1 := rget_run (s := s) d hl (at_ := at_) (by omega)
    have two : ∀ (p : Nat) (q : Bool), ∃ t1 t2, aStore 1 (Z (.ptr c 1)) (I .i64 (p : Nat)) s = some (tt, t1) ∧ aStore 1 (Z (.ptr c 2)) (B q) t1 = some (tt, t2) ∧ t2.get c = some (.cells true (cC b p q)) ∧ But c s t2 := fun p q => by
      have s1 := aStore1_of (σ := s) (i := c) (o := 1) (x := .int .i64 (p : Nat)) hc (by simp)
      have hc1 : (s.set c (.cells true (cC b p false))).get c = some (.cells true (cC b p false)) := St.get_set_same _ _ _
      have s2 := aStore1_of (σ := s.set c (.cells true (cC b p false))) (i := c) (o := 2) (x := .bool q) hc1 (by simp)
      refine ⟨_, _, s1, s2, St.get_set_same _ _ _, St.wf_set (St.wf_set wf hcl _) (by simpa using hcl) _, by simp, fun k hk hk' => by rw [St.get_set_ne _ _ hk', St.get_set_ne _ _ hk']⟩
    cases hv : vget b at_ with
    | none =>
      rw [hv] at e1
      simp only [vres, if_pos ha] at e1
      obtain ⟨t1, t2, s1, s2, r, bt⟩ := two at_ true
      have hr : rnum b at_ false = (0, at_, true) := by unfold rnum; rw [hv]; rfl
      rw [hr]
      refine ⟨t2, ?_, r, bt, ha⟩
      generalize R (d + 1) = rr at *
      simp [an, fa, l0, l1, l2, e1, aExtract, s1, s2]
    | some p =>
      obtain ⟨m, to⟩ := p
      rw [hv] at e1
      simp only [vres] at e1
      obtain ⟨t1, t2, s1, s2, r, bt⟩ := two to false
      have hr : rnum b at_ false = (m, to, false) := by unfold rnum; rw [hv]; rfl
      rw [hr]
      refine ⟨t2, ?_, r, bt, (vget_lt hv).2⟩
      generalize R (d + 1) = rr at *
      simp [an, fa, l0, l1, l2, e1, aExtract, s1, s2]

theorem rbyte_run (d : Nat) (wf : s.wf) (hc : s.get c = some (.cells true (cC b 0 false))) : ∃ t, R (d + 1) 56 [Z (.ptr c 0)] s = some (I .u8 ((b.headD 0).toNat : Nat), t) ∧ t.get c = some (.cells true (cC b (if b = [] then 0 else 1) (decide (b = [])))) ∧ But c s t := by
  rw [f56_run]
  unfold f56
  have an : aNil (Z (.ptr c 0)) = some (Z (.ptr c 0)) := rfl
  have fa : ∀ j, aFieldAddr j (Z (.ptr c 0)) = some (Z (.ptr c j)) := fun j => by simp [aFieldAddr]
  have l0 : aLoad1 (Z (.ptr c 0)) s.get = some (Z (.str b)) := aLoad1_of hc rfl
  have l1 : aLoad1 (Z (.ptr c 1)) s.get = some (I .i64 0) := aLoad1_of hc rfl
  have l2 : aLoad1 (Z (.ptr c 2)) s.get = some (B false) := aLoad1_of hc rfl
  have hcl := wf.lt hc
  have hl : aLenStr (Z (.str b)) = some (I .i64 ((b.length : Nat) : Int)) := rfl
  have one : ∀ {j : Nat} {v : S}, j < 3 → ∃ t, aStore 1 (Z (.ptr c j)) (Z v) s = some (tt, t) ∧ t.get c = some (.cells true ((cC b 0 false).set j v)) ∧ But c s t := fun {j v} hj => by
    have s1 := aStore1_of (σ := s) (i := c) (o := j) (x := v) hc (by simpa using hj)
    exact ⟨_, s1, St.get_set_same _ _ _, St.wf_set wf hcl _, by simp, fun k hk hk' => St.get_set_ne _ _ hk'⟩
  cases hb : b with
  | nil =>
    rw [hb] at hl l0
    obtain ⟨t1, s1, r1, bt⟩ := one (j := 2) (v := .bool true) (by omega)
    rw [hb] at r1
    refine ⟨t1, ?_, r1, bt⟩
    have hl' : aLenStr (Z (.str [])) = some (I .i64 0) := rfl
    simp [an, fa, l0, l1, l2, hl', s1]
  | cons a r =>
    rw [hb] at hl l0
    obtain ⟨t1, s1, r1, bt⟩ := one (j := 1) (v := .int .i64 1) (by omega)
    rw [hb] at r1
    have c1 : ¬ (((a :: r).length : Nat) : Int) ≤ 0 := by simp
    have w1 : IntKind.i64.wrap 1 = 1 := rfl
    have w0 : IntKind.i64.wrap 0 = 0 := rfl
    have r1' : t1.get c = some (.cells true (cC (a :: r) 1 false)) := r1
    have m0 : aLoad1 (Z (.ptr c 0)) t1.get = some (Z (.str (a :: r))) := aLoad1_of r1' rfl
    have m1 : aLoad1 (Z (.ptr c 1)) t1.get = some (I .i64 1) := aLoad1_of r1' rfl
    have at0 : aAtStr (Z (.str (a :: r))) (I .i64 0) = some (I .u8 a.toNat) := at_str (j := 0) rfl rfl
    refine ⟨t1, ?_, by simpa using r1', bt⟩
    rw [show ((a :: r).headD 0) = a from rfl]
    generalize (((a :: r).length : Nat) : Int) = L at *
    generalize a :: r = br at *
    simp [an, fa, l0, l1, l2, hl, c1, w1, s1, m0, m1, w0, at0]

def rtext (b : Bs) (n at_ : Nat) (bad : Bool) : Bs × Nat × Bool := if bad = true ∨ b.length - at_ < n then ([], at_, true) else ((b.drop at_).take n, at_ + n, false)

theorem rtext_run (d : Nat) (wf : s.wf) {n at_ : Nat} {bad : Bool} (hc : s.get c = some (.cells true (cC b at_ bad))) (hl : b.length ≤ 100000) (ha : at_ ≤ b.length) :
    ∃ t, R (d + 1) 59 [Z (.ptr c 0), I .u64 (n : Nat)] s = some (Z (.str (rtext b n at_ bad).1), t) ∧ t.get c = some (.cells true (cC b (rtext b n at_ bad).2.1 (rtext b n at_ bad).2.2)) ∧ But c s t := by
  rw [f59_run]
  unfold f59
  have an : aNil (Z (.ptr c 0)) = some (Z (.ptr c 0)) := rfl
  have fa : ∀ j, aFieldAddr j (Z (.ptr c 0)) = some (Z (.ptr c j)) := fun j => by simp [aFieldAddr]
  have l0 : aLoad1 (Z (.ptr c 0)) s.get = some (Z (.str b)) := aLoad1_of hc rfl
  have l1 : aLoad1 (Z (.ptr c 1)) s.get = some (I .i64 (at_ : Nat)) := aLoad1_of hc rfl
  have l2 : aLoad1 (Z (.ptr c 2)) s.get = some (B bad) := aLoad1_of hc rfl
  have hcl := wf.lt hc
  have hl' : aLenStr (Z (.str b)) = some (I .i64 ((b.length : Nat) : Int)) := rfl
  have one : ∀ {j : Nat} {v : S}, j < 3 → ∃ t, aStore 1 (Z (.ptr c j)) (Z v) s = some (tt, t) ∧ t.get c = some (.cells true ((cC b at_ bad).set j v)) ∧ But c s t := fun {j v} hj => by
    have s1 := aStore1_of (σ := s) (i := c) (o := j) (x := v) hc (by simpa using hj)
    exact ⟨_, s1, St.get_set_same _ _ _, St.wf_set wf hcl _, by simp, fun k hk hk' => St.get_set_ne _ _ hk'⟩
  have w1 : IntKind.i64.wrap (((b.length : Nat) : Int) - ((at_ : Nat) : Int)) = ((b.length - at_ : Nat) : Int) := by rw [wrap_in _ (by omega) (by omega)]; omega
  have w2 : IntKind.u64.wrap ((b.length - at_ : Nat) : Int) = ((b.length - at_ : Nat) : Int) := wrap64 _ (by omega)
  by_cases h : bad = true ∨ b.length - at_ < n
  · have hr : rtext b n at_ bad = ([], at_, true) := by unfold rtext; rw [if_pos h]
    rw [hr]
    obtain ⟨t1, s1, r1, bt⟩ := one (j := 2) (v := .bool true) (by omega)
    refine ⟨t1, ?_, r1, bt⟩
    cases bad with
    | true => simp [an, fa, l2, s1, gtt]
    | false =>
      have hh : b.length - at_ < n := h.resolve_left (by decide)
      have c1 : ((b.length - at_ : Nat) : Int) < ((n : Nat) : Int) := by omega
      generalize ((b.length - at_ : Nat) : Int) = D at *
      generalize ((b.length : Nat) : Int) = L at *
      generalize ((at_ : Nat) : Int) = A at *
      generalize ((n : Nat) : Int) = NN at *
      simp [an, fa, l0, l1, l2, hl', w1, w2, c1, s1]
  · have hr : rtext b n at_ bad = ((b.drop at_).take n, at_ + n, false) := by unfold rtext; rw [if_neg h]
    have hb : bad = false := by cases bad with
      | true => exact absurd (.inl rfl) h
      | false => rfl
    subst hb
    have hh : ¬ b.length - at_ < n := fun e => h (.inr e)
    rw [hr]
    obtain ⟨t1, s1, r1, bt⟩ := one (j := 1) (v := .int .i64 ((at_ + n : Nat) : Int)) (by omega)
    have r1' : t1.get c = some (.cells true (cC b (at_ + n) false)) := r1
    have m0 : aLoad1 (Z (.ptr c 0)) t1.get = some (Z (.str b)) := aLoad1_of r1' rfl
    have m1 : aLoad1 (Z (.ptr c 1)) t1.get = some (I .i64 ((at_ + n : Nat) : Int)) := aLoad1_of r1' rfl
    have c1 : ¬ ((b.length - at_ : Nat) : Int) < ((n : Nat) : Int) := by omega
    have w3 : IntKind.i64.wrap ((n : Nat) : Int) = ((n : Nat) : Int) := wrapi _ (by omega)
    have w4 : IntKind.i64.wrap (((at_ : Nat) : Int) + ((n : Nat) : Int)) = ((at_ + n : Nat) : Int) := by rw [wrap_in _ (by omega) (by omega)]; omega
    have w5 : IntKind.i64.wrap (((at_ + n : Nat) : Int) - ((n : Nat) : Int)) = ((at_ : Nat) : Int) := by rw [wrap_in _ (by omega) (by omega)]; omega
    have pc := aPieceStr_lh (l := b) (lo := at_) (hi := at_ + n) rfl rfl (by omega) (by omega)
    rw [Nat.add_sub_cancel_left] at pc
    refine ⟨t1, ?_, r1', bt⟩
    generalize ((b.length - at_ : Nat) : Int) = D at *
    generalize ((at_ + n : Nat) : Int) = AN at *
    generalize ((b.length : Nat) : Int) = L at *
    generalize ((at_ : Nat) : Int) = A at *
    generalize ((n : Nat) : Int) = NN at *
    simp [an, fa, l0, l1, l2, hl', w1, w2, c1, w3, w4, s1, m0, m1, w5, pc]

theorem small_run (d : Nat) (n most : Nat) (hm : most < 2 ^ 62) : R (d + 1) 57 [I .u64 (n : Nat), I .u64 (most : Nat)] s = some (I .i64 ((if most < n then most + 1 else n : Nat) : Int), s) := by
  rw [f57_run]
  unfold f57
  by_cases h : most < n
  · have c1 : ((most : Nat) : Int) < ((n : Nat) : Int) := by omega
    have w1 : IntKind.i64.wrap ((most : Nat) : Int) = ((most : Nat) : Int) := wrapi _ (by omega)
    have w2 : IntKind.i64.wrap (((most : Nat) : Int) + 1) = ((most + 1 : Nat) : Int) := by rw [wrap_in _ (by omega) (by omega)]; omega
    rw [if_pos h]
    generalize ((most + 1 : Nat) : Int) = M1 at *
    generalize ((most : Nat) : Int) = M at *
    generalize ((n : Nat) : Int) = NN at *
    simp [c1, w1, w2]
  · have c1 : ¬ ((most : Nat) : Int) < ((n : Nat) : Int) := by omega
    have w1 : IntKind.i64.wrap ((n : Nat) : Int) = ((n : Nat) : Int) := wrapi _ (by omega)
    rw [if_neg h]
    generalize ((most : Nat) : Int) = M at *
    generalize ((n : Nat) : Int) = NN at *
    simp [c1, w1]
end
end Go.Proofs.YtlhbidbdmdcdeaaGreatDoor


/-
  The document's own reader of entries. No conditions but those named in each line.
-/
namespace Go.Proofs.YtlhbidbdmdcdeaaGreatDoor
open Go Go.Abs Go.Abs.F
set_option linter.unusedVariables false

def sm (n most : Nat) : Nat := if most < n then most + 1 else n
def rnx (b : Bs) (most at_ : Nat) (bad : Bool) : Nat × Nat × Bool := (sm (rnum b at_ bad).1 most, (rnum b at_ bad).2.1, (rnum b at_ bad).2.2)
def rgetF (b : Bs) : Ent × Bool :=
  let p := rnx b 1073741824 (if b = [] then 0 else 1) (decide (b = []))
  let e0 : Ent := { ent0 with k := (b.headD 0).toNat, v := (p.1 : Nat) }
  if (b.headD 0).toNat = 1 then
    let i := rnx b 1073741824 p.2.1 p.2.2
    let t := rnx b 4 i.2.1 i.2.2
    let f := rnx b 1099511627776 t.2.1 t.2.2
    let o := rnx b 1099511627776 f.2.1 f.2.2
    let u := rnum b o.2.1 o.2.2
    ({ e0 with i := (i.1 : Nat), t := (t.1 : Nat), f := (f.1 : Nat), o := (o.1 : Nat), u := (u.1 % 4294967296 : Nat) }, u.2.2)
  else if (b.headD 0).toNat = 2 then
    let i := rnx b 1073741824 p.2.1 p.2.2
    ({ e0 with i := (i.1 : Nat) }, i.2.2)
  else if (b.headD 0).toNat = 4 then
    let m := rnum b p.2.1 p.2.2
    ({ e0 with x := (rtext b m.1 m.2.1 m.2.2).1 }, (rtext b m.1 m.2.1 m.2.2).2.2)
  else (e0, p.2.2)

theorem rnx_put {bs pre post : Bs} {n at_ most : Nat} (hb : bs = pre ++ (vput n ++ post)) (ha : at_ = pre.length) (hn : n ≤ most) (hm : most < 2 ^ 64) : rnx bs most at_ false = (n, at_ + (vput n).length, false) := by
  have : rnum bs at_ false = (n, at_ + (vput n).length, false) := by
    unfold rnum
    rw [vget_vput hb ha (by omega)]
    rfl
  unfold rnx
  rw [this]
  simp only [sm, if_neg (show ¬ most < n by omega)]

theorem rnum_put {bs pre post : Bs} {n at_ : Nat} (hb : bs = pre ++ (vput n ++ post)) (ha : at_ = pre.length) (hn : n < 2 ^ 64) : rnum bs at_ false = (n, at_ + (vput n).length, false) := by
  unfold rnum
  rw [vget_vput hb ha hn]
  rfl

theorem rgetF_putB {e : Ent} (h : mayE e = true) (hw : EWf e) : rgetF (putB e) = (e, false) := by
  obtain ⟨v0, v1, k0, k1, h1, h2, h3, h4⟩ := mayE_range h
  obtain ⟨w0, w1⟩ := hw
  have hkb : (UInt8.ofNat e.k.toNat).toNat = e.k.toNat := by rw [byte_nat]; omega
  have hne : putB e ≠ [] := by simp [putB]
  have hhd : ((putB e).headD 0).toNat = e.k.toNat := by rw [← hkb]; rfl
  have hc1 : putB e = [UInt8.ofNat e.k.toNat] ++ (vput e.v.toNat ++ (putNs (nums e) ++ e.x)) := by simp [putB]
  have n1 := rnx_put (most := 1073741824) hc1 rfl (by omega) (by omega)
  have hv : ((e.v.toNat : Nat) : Int) = e.v := Int.toNat_of_nonneg v0
  unfold rgetF
  rw [if_neg hne, decide_eq_false hne]
  rcases (by omega : e.k = 1 ∨ e.k = 2 ∨ e.k = 3 ∨ e.k = 4) with hk | hk | hk | hk
  · obtain ⟨hx, i0, i1, t0, t1, f0, f1, o1⟩ := h1 hk
    have hk' : ((putB e).headD 0).toNat = 1 := by rw [hhd, hk]; rfl
    have hn : nums e = [e.i.toNat, e.t.toNat, e.f.toNat, e.o.toNat, e.u.toNat] := by simp [nums, hk]
    have c2 : putB e = ([UInt8.ofNat e.k.toNat] ++ vput e.v.toNat) ++ (vput e.i.toNat ++ (vput e.t.toNat ++ vput e.f.toNat ++ vput e.o.toNat ++ vput e.u.toNat)) := by simp [putB, hn, putNs, hx]
    have c3 : putB e = ([UInt8.ofNat e.k.toNat] ++ vput e.v.toNat ++ vput e.i.toNat) ++ (vput e.t.toNat ++ (vput e.f.toNat ++ vput e.o.toNat ++ vput e.u.toNat)) := by simp [putB, hn, putNs, hx]
    have c4 : putB e = ([UInt8.ofNat e.k.toNat] ++ vput e.v.toNat ++ vput e.i.toNat ++ vput e.t.toNat) ++ (vput e.f.toNat ++ (vput e.o.toNat ++ vput e.u.toNat)) := by simp [putB, hn, putNs, hx]
    have c5 : putB e = ([UInt8.ofNat e.k.toNat] ++ vput e.v.toNat ++ vput e.i.toNat ++ vput e.t.toNat ++ vput e.f.toNat) ++ (vput e.o.toNat ++ vput e.u.toNat) := by simp [putB, hn, putNs, hx]
    have c6 : putB e = ([UInt8.ofNat e.k.toNat] ++ vput e.v.toNat ++ vput e.i.toNat ++ vput e.t.toNat ++ vput e.f.toNat ++ vput e.o.toNat) ++ (vput e.u.toNat ++ []) := by simp [putB, hn, putNs, hx]
    have n2 := rnx_put (most := 1073741824) c2 rfl (by omega) (by omega)
    have n3 := rnx_put (most := 4) c3 rfl (by omega) (by omega)
    have n4 := rnx_put (most := 1099511627776) c4 rfl (by omega) (by omega)
    have n5 := rnx_put (most := 1099511627776) c5 rfl (by omega) (by omega)
    have n6 := rnum_put c6 rfl (by omega)
    simp only [List.length_append, List.length_cons, List.length_nil, Nat.zero_add] at n1 n2 n3 n4 n5 n6
    simp only [hk', n1, n2, n3, n4, n5, n6, if_true]
    rw [Nat.mod_eq_of_lt (show e.u.toNat < 4294967296 by omega)]
    simp only [hv, Int.toNat_of_nonneg (show 0 ≤ e.i by omega), Int.toNat_of_nonneg t0, Int.toNat_of_nonneg f0, Int.toNat_of_nonneg (show 0 ≤ e.o by omega), Int.toNat_of_nonneg w0]
    obtain ⟨a1, a2, a3, a4, a5, a6, a7, a8⟩ := e
    simp only at hk hx
    subst hk hx
    rfl
  · have hk' : ((putB e).headD 0).toNat = 2 := by rw [hhd, hk]; rfl
    obtain ⟨q0, q1, q2⟩ := h2 hk
    have hn : nums e = [e.i.toNat] := by simp [nums, hk]
    have c2 : putB e = ([UInt8.ofNat e.k.toNat] ++ vput e.v.toNat) ++ (vput e.i.toNat ++ e.x) := by simp [putB, hn, putNs]
    have n2 := rnx_put (most := 1073741824) c2 rfl (by omega) (by omega)
    simp only [List.length_append, List.length_cons, List.length_nil, Nat.zero_add] at n1 n2
    simp only [hk', n1, n2, if_true, if_neg (show ¬ (2 : Nat) = 1 by decide)]
    rw [hv, Int.toNat_of_nonneg (show 0 ≤ e.i by omega)]
    obtain ⟨a1, a2, a3, a4, a5, a6, a7, a8⟩ := e
    simp only at hk
    subst hk
    obtain rfl : a4 = 0 := congrArg Ent.t q2
    obtain rfl : a5 = 0 := congrArg Ent.f q2
    obtain rfl : a6 = 0 := congrArg Ent.o q2
    obtain rfl : a7 = 0 := congrArg Ent.u q2
    obtain rfl : a8 = [] := congrArg Ent.x q2
    rfl
  · have hk' : ((putB e).headD 0).toNat = 3 := by rw [hhd, hk]; rfl
    simp only [List.length_cons, List.length_nil, Nat.zero_add] at n1
    simp only [hk', n1, if_neg (show ¬ (3 : Nat) = 1 by decide), if_neg (show ¬ (3 : Nat) = 2 by decide), if_neg (show ¬ (3 : Nat) = 4 by decide)]
    rw [hv]
    have q2 := (h3 hk).2
    obtain ⟨a1, a2, a3, a4, a5, a6, a7, a8⟩ := e
    simp only at hk
    subst hk
    obtain rfl : a3 = 0 := congrArg Ent.i q2
    obtain rfl : a4 = 0 := congrArg Ent.t q2
    obtain rfl : a5 = 0 := congrArg Ent.f q2
    obtain rfl : a6 = 0 := congrArg Ent.o q2
    obtain rfl : a7 = 0 := congrArg Ent.u q2
    obtain rfl : a8 = [] := congrArg Ent.x q2
    rfl
  · have hk' : ((putB e).headD 0).toNat = 4 := by rw [hhd, hk]; rfl
    obtain ⟨x0, q2, _⟩ := h4 hk
    have hn : nums e = [e.x.length] := by simp [nums, hk]
    have c2 : putB e = ([UInt8.ofNat e.k.toNat] ++ vput e.v.toNat) ++ (vput e.x.length ++ e.x) := by simp [putB, hn, putNs]
    have n2 := rnum_put c2 rfl (by omega)
    have hl : (putB e).length = 1 + (vput e.v.toNat).length + (vput e.x.length).length + e.x.length := by rw [c2]; simp; omega
    have hd : (putB e).drop (1 + (vput e.v.toNat).length + (vput e.x.length).length) = e.x := by
      rw [c2, ← List.append_assoc, List.drop_left']
      simp
      omega
    simp only [List.length_append, List.length_cons, List.length_nil, Nat.zero_add] at n1 n2
    have hr : rtext (putB e) e.x.length (1 + (vput e.v.toNat).length + (vput e.x.length).length) false = (e.x, 1 + (vput e.v.toNat).length + (vput e.x.length).length + e.x.length, false) := by
      unfold rtext
      rw [if_neg (by rw [hl]; simp), hd, List.take_length]
    simp only [hk', n1, n2, hr, if_neg (show ¬ (4 : Nat) = 1 by decide), if_neg (show ¬ (4 : Nat) = 2 by decide), if_true]
    rw [hv]
    obtain ⟨a1, a2, a3, a4, a5, a6, a7, a8⟩ := e
    simp only at hk
    subst hk
    obtain rfl : a3 = 0 := congrArg Ent.i q2
    obtain rfl : a4 = 0 := congrArg Ent.t q2
    obtain rfl : a5 = 0 := congrArg Ent.f q2
    obtain rfl : a6 = 0 := congrArg Ent.o q2
    obtain rfl : a7 = 0 := congrArg Ent.u q2
    rfl

theorem rget_eq (b : Bs) (hw : EWf (rgetF b).1) (hwf : ∀ e, getE b = some e → EWf e) : getE b = if (rgetF b).2 = false ∧ putE (rgetF b).1 = some b then some (rgetF b).1 else none := by
  by_cases h : (rgetF b).2 = false ∧ putE (rgetF b).1 = some b
  · rw [if_pos h]
    have h2 := h.2
    unfold putE at h2
    split at h2
    · rename_i hm
      have hb : putB (rgetF b).1 = b := by simpa using h2
      have := getE_putB hm hw
      rwa [hb] at this
    · cases h2
  · rw [if_neg h]
    cases hg : getE b with
    | none => rfl
    | some e =>
      obtain ⟨hm, hb⟩ := getE_back hg
      have hr := rgetF_putB hm (hwf e hg)
      rw [← hb] at hr
      exfalso
      apply h
      rw [hr]
      refine ⟨rfl, ?_⟩
      unfold putE
      rw [if_pos hm, ← hb]
end Go.Proofs.YtlhbidbdmdcdeaaGreatDoor


/-
  The document's own reader of entries, as it runs. No conditions but those named in each line.
-/
namespace Go.Proofs.YtlhbidbdmdcdeaaGreatDoor
open Go Go.Abs Go.Abs.F
set_option linter.unusedVariables false

theorem z0 : (0 : Int) ≤ 0 := by decide
theorem z1 : (0 : Int) < 4294967296 := by decide

theorem getE_wf {b : Bs} {e : Ent} (h : getE b = some e) : EWf e := by
  unfold getE at h
  split at h
  · cases h
  · rename_i c r
    split at h
    · cases h
    · rename_i e' bad hf
      split at h
      · cases h
        unfold getFields at hf
        simp only at hf
        split at hf
        · cases hf
          refine ⟨Int.natCast_nonneg _, ?_⟩
          have h4 : ∀ at_ bad, (((nxt (c :: r) 4294967295 at_ bad).1 : Nat) : Int) < 4294967296 := fun at_ bad => by
            have := @nxt_le (c :: r) 4294967295 at_ bad
            omega
          exact h4 _ _
        · split at hf
          · cases hf; exact ⟨z0, z1⟩
          · split at hf
            · split at hf
              · cases hf
              · cases hf; exact ⟨z0, z1⟩
            · cases hf; exact ⟨z0, z1⟩
      · cases h

theorem rgetF_wf (b : Bs) : EWf (rgetF b).1 := by
  unfold rgetF
  simp only
  split
  · refine ⟨Int.natCast_nonneg _, ?_⟩
    have h4 : ∀ n : Nat, ((n % 4294967296 : Nat) : Int) < 4294967296 := fun n => by omega
    exact h4 _
  · split
    · exact ⟨z0, z1⟩
    · split
      · exact ⟨z0, z1⟩
      · exact ⟨z0, z1⟩

theorem rget_eq' (b : Bs) : getE b = if (rgetF b).2 = false ∧ putE (rgetF b).1 = some b then some (rgetF b).1 else none := rget_eq b (rgetF_wf b) fun e h => getE_wf h
end Go.Proofs.YtlhbidbdmdcdeaaGreatDoor


/-
  What is put is the only thing that is got from it: nothing shorter, nothing longer. No conditions but those named in each line.
-/
namespace Go.Proofs.YtlhbidbdmdcdeaaGreatDoor
open Go Go.Abs Go.Abs.F
set_option linter.unusedVariables false

end Go.Proofs.YtlhbidbdmdcdeaaGreatDoor


/-
  Are entries few? And entries as arguments. No conditions but those named in each line.
-/
namespace Go.Proofs.YtlhbidbdmdcdeaaGreatDoor
open Go Go.Abs Go.Abs.F
set_option linter.unusedVariables false

def fewP (l : List Ent) : Bool := l.all (fun e => decide (e.x.length ≤ 400)) && decide (l.length ≤ 60)

section
variable {s : St} {x : S} {l : List Ent}

theorem lenS_of {e n : Nat} {vs : List S} (h : Rd e s x n vs) : lenS (Z x) = n := by
  rcases h.rd with ⟨rfl, rfl | ⟨c, g, rfl⟩ | ⟨c, o, cap, rfl⟩⟩ | ⟨c, o, cap, w, rows, rfl, _⟩ <;> rfl

theorem few_run (d : Nat) (h : RE s x l) (hl : l.length < 9223372036854775808) : R (d + 1) 18 [Z x] s = some (B (fewP l), s) := by
  refine runQ_prim ?_
  have e1 : toldP 17 true 18 [Z x] s = none := by simp [toldP]
  have e2 : toldP 29 true 18 [Z x] s = none := by simp [toldP]
  refine (orP_right e1).trans ((orP_right e2).trans (orP_left (orP_left ?_)))
  have hc : [18].contains 18 = true := by decide
  simp only [bigP, hc]
  have hN : lenS (([Z x] : List T).headD .any) + 8 = l.length + 8 := by
    show lenS (Z x) + 8 = _
    rw [lenS_of h]
  rw [hN, (runQ_body rfl Tryz.func18 (by kernel_rfl)).trans (f18_eq _ _ _ _)]
  unfold f18
  have hll := h.lens
  obtain ⟨j, τ, lp, hj, rfl⟩ := loops_inv (f := f18_l1 (runQ Tryz.prog (l.length + 8) noPrim 0) (l.length + 8)) (fun q v u => ∃ k : Nat, q + k = l.length ∧ v = [Z x, I .i64 (k : Nat)] ∧ u = s ∧ (l.take k).all (fun e => decide (e.x.length ≤ 400)) = true)
    (fun j u => (j = .exit 0 [Z x] ∧ l.all (fun e => decide (e.x.length ≤ 400)) = true ∨ j = .ret (B false) ∧ l.all (fun e => decide (e.x.length ≤ 400)) = false) ∧ u = s) (by
    rintro q v u ⟨k, hk, rfl, rfl, ha⟩
    by_cases hkl : k < l.length
    · have hg : l[k]? = some l[k] := List.getElem?_eq_getElem hkl
      obtain ⟨c, p, ix, ld, _⟩ := Rd.at h (i := ((k : Nat) : Int)) rfl hkl
      have l7 := ld 7 (.str l[k].x) (by omega) (by rw [cells_get cE_len hg (by omega)]; rfl)
      have fa : aFieldAddr 7 (Z (.ptr c p)) = some (Z (.ptr c (p + 7))) := rfl
      have sl : aLenStr (Z (.str l[k].x)) = some (I .i64 ((l[k].x.length : Nat) : Int)) := rfl
      have c0 : ((k : Nat) : Int) < ((l.length : Nat) : Int) := by omega
      have w1 : IntKind.i64.wrap ((k : Int) + 1) = ((k + 1 : Nat) : Int) := by rw [wrap_in _ (by omega) (by omega)]; omega
      by_cases hx : l[k].x.length ≤ 400
      · left
        have c1 : ¬ (400 : Int) < ((l[k].x.length : Nat) : Int) := by omega
        refine ⟨[Z x, I .i64 ((k + 1 : Nat) : Int)], u, q - 1, ?_, by omega, k + 1, by omega, rfl, rfl, ?_⟩
        · unfold f18_l1
          generalize ((k + 1 : Nat) : Int) = K1 at *
          generalize ((k : Nat) : Int) = K at *
          generalize ((l.length : Nat) : Int) = L at *
          generalize ((l[k].x.length : Nat) : Int) = X at *
          simp [hll, c0, ix, fa, l7, sl, c1, w1]
        · rw [List.take_add_one, hg]
          simp only [Option.toList, List.all_append, ha, Bool.true_and, List.all_cons, List.all_nil, Bool.and_true]
          exact decide_eq_true hx
      · right
        have c1 : (400 : Int) < ((l[k].x.length : Nat) : Int) := by omega
        refine ⟨.ret (B false), u, ?_, (fun v hv => by cases hv), .inr ⟨rfl, ?_⟩, rfl⟩
        · unfold f18_l1
          generalize ((k : Nat) : Int) = K at *
          generalize ((l.length : Nat) : Int) = L at *
          generalize ((l[k].x.length : Nat) : Int) = X at *
          simp [hll, c0, ix, fa, l7, sl, c1]
        · rw [List.all_eq_false]
          exact ⟨l[k], List.getElem_mem hkl, by simpa using hx⟩
    · right
      have hk' : k = l.length := by omega
      subst hk'
      rw [List.take_length] at ha
      refine ⟨.exit 0 [Z x], u, ?_, (fun v hv => by cases hv), .inl ⟨rfl, ha⟩, rfl⟩
      unfold f18_l1
      simp [hll]) (l.length + 8) l.length [Z x, I .i64 0] s ⟨0, rfl, rfl, rfl, by simp⟩ (by omega)
  rcases hj with ⟨rfl, ha⟩ | ⟨rfl, ha⟩
  · have hd : decide (((l.length : Nat) : Int) ≤ 60) = decide (l.length ≤ 60) := decide_eq_decide.2 (by omega)
    have hf : fewP l = decide (l.length ≤ 60) := by unfold fewP; rw [ha]; rfl
    rw [hf, ← hd]
    generalize ((l.length : Nat) : Int) = L at *
    simp [lp, hll]
  · have hf : fewP l = false := by unfold fewP; rw [ha]; rfl
    rw [hf]
    simp [lp]

theorem KS_str {y : S} (h : KS .str y) : ∃ b, y = .str b := by
  cases y <;> first | exact ⟨_, rfl⟩ | exact h.elim

theorem ent_row {r : List S} (h : All2 KS [.int .i64, .int .i64, .int .i64, .int .i64, .int .i64, .int .i64, .int .u32, .str] r) : ∃ e : Ent, r = cE e ∧ EWf e := by
  cases h with
  | cons h1 h =>
    cases h with
    | cons h2 h =>
      cases h with
      | cons h3 h =>
        cases h with
        | cons h4 h =>
          cases h with
          | cons h5 h =>
            cases h with
            | cons h6 h =>
              cases h with
              | cons h7 h =>
                cases h with
                | cons h8 h =>
                  cases h
                  obtain ⟨a1, rfl, _⟩ := KS.int h1
                  obtain ⟨a2, rfl, _⟩ := KS.int h2
                  obtain ⟨a3, rfl, _⟩ := KS.int h3
                  obtain ⟨a4, rfl, _⟩ := KS.int h4
                  obtain ⟨a5, rfl, _⟩ := KS.int h5
                  obtain ⟨a6, rfl, _⟩ := KS.int h6
                  obtain ⟨a7, rfl, w⟩ := KS.int h7
                  obtain ⟨a8, rfl⟩ := KS_str h8
                  have w2 : IntKind.u32.min ≤ a7 ∧ a7 ≤ IntKind.u32.max := by simpa [Lit.wf] using w
                  have w3 : (0 : Int) ≤ a7 ∧ a7 ≤ 4294967295 := w2
                  exact ⟨⟨a1, a2, a3, a4, a5, a6, a7, a8⟩, rfl, w3.1, by show a7 < 4294967296; omega⟩

theorem ent_rows : ∀ {rows : List (List S)}, (∀ r ∈ rows, All2 KS [.int .i64, .int .i64, .int .i64, .int .i64, .int .i64, .int .i64, .int .u32, .str] r) → ∃ l : List Ent, rows = l.map cE ∧ ∀ e ∈ l, EWf e
  | [], _ => ⟨[], rfl, fun e h => by cases h⟩
  | r :: rows, h => by
    obtain ⟨e, rfl, w⟩ := ent_row (h r List.mem_cons_self)
    obtain ⟨l, rfl, ws⟩ := ent_rows (rows := rows) fun q hq => h q (List.mem_cons_of_mem _ hq)
    exact ⟨e :: l, rfl, fun q hq => by
      rcases List.mem_cons.1 hq with rfl | hq
      · exact w
      · exact ws q hq⟩

theorem slEnts {a : T} {c : Nat} {rows : List (List S)} (ha : SlOf a c rows) (hr : ∀ r ∈ rows, All2 KS [.int .i64, .int .i64, .int .i64, .int .i64, .int .i64, .int .i64, .int .u32, .str] r) (hb : s.get c = some (argBlk rows.flatten)) :
    ∃ x, ∃ l : List Ent, a = Z x ∧ RE s x l ∧ (∀ d, own x = some d → d = c) ∧ (∀ e ∈ l, EWf e) ∧ l.length = rows.length := by
  obtain ⟨l, h1, h2⟩ := ent_rows hr
  obtain ⟨x, rfl, h3, h4⟩ := slRd ha (e := 8) (by decide) (fun r h => (forall2_length (hr r h)).symm) hb
  refine ⟨x, l, rfl, ?_, h4, h2, by rw [h1, List.length_map]⟩
  rw [h1, List.length_map] at h3
  exact h3
end
end Go.Proofs.YtlhbidbdmdcdeaaGreatDoor


/-
  LogMeets: two rows meet as far as they are one. No conditions but those named in each line.
-/
namespace Go.Proofs.YtlhbidbdmdcdeaaGreatDoor
open Go Go.Abs Go.Abs.F
set_option linter.unusedVariables false

section
variable {s t : St} {x y : S} {l m : List Ent}

end
end Go.Proofs.YtlhbidbdmdcdeaaGreatDoor


/-
  LogMore: what is put behind is read behind; what is broken ends the reading. No conditions but those named in each line.
-/
namespace Go.Proofs.YtlhbidbdmdcdeaaGreatDoor
open Go Go.Abs Go.Abs.F
set_option linter.unusedVariables false

section
variable {s t : St} {x y : S} {l m : List Ent} {bs : Bs}

end
end Go.Proofs.YtlhbidbdmdcdeaaGreatDoor


/-
  LogMany: two thousand entries are put, not one more, and as many are read. No conditions but those named in each line.
-/
namespace Go.Proofs.YtlhbidbdmdcdeaaGreatDoor
open Go Go.Abs Go.Abs.F
set_option linter.unusedVariables false

section
variable {s t : St} {x y : S} {l m : List Ent} {bs : Bs}

structure EB (s0 s : St) (o z : S) (l : List Ent) (bs : Bs) : Prop where
  out : FE s0 s o l
  byt : FB s0 s z bs
  ne : ∀ c, own o = some c → own z ≠ some c

theorem EB.lit {s0 : St} {o z : S} {e : Ent} (h : EB s0 s o z l bs) (hl : l.length ≤ 1000000) :
    ∃ x' t s', aNew s (nSlice 1 (aFill [.int .i64 0, .int .i64 0, .int .i64 0, .int .i64 0, .int .i64 0, .int .i64 0, .int .u32 0, .str []] [(0, 8, AE e)])) = some (Z (.sl s.size 0 1 (.known 1)), s') ∧ aAppend 8 72 (Z o) (Z (.sl s.size 0 1 (.known 1))) s' = some (Z x', t) ∧ EB s0 t x' z (l ++ [e]) bs := by
  obtain ⟨x', t, s', e1, e2, f, hz, hk, ho⟩ := FE.lit' (e := e) h.out hl
  refine ⟨x', t, s', e1, e2, f, Fr_other h.byt f.gr hz fun c hc => hk c (h.byt.new c hc).2 fun hh => h.ne c hh hc, fun c hc hy => ?_⟩
  rcases ho with h1 | h1 | ⟨c', h1, h2⟩
  · rw [h1] at hc; cases hc
  · rw [h1] at hc; exact h.ne c hc hy
  · rw [h1] at hc
    cases hc
    have := (h.byt.new c hy).2
    omega

theorem EB.app {s0 : St} {o z y : S} {cs : Bs} (h : EB s0 s o z l bs) (hy : RB s y cs) (hl : bs.length + cs.length ≤ 1000000) :
    ∃ z' t, aAppend 1 1 (Z z) (Z y) s = some (Z z', t) ∧ EB s0 t o z' l (bs ++ cs) := by
  obtain ⟨z', t, e1, f, hzz, hk, ho⟩ := FB.app' h.byt hy hl
  refine ⟨z', t, e1, Fr_other h.out f.gr hzz fun c hc => hk c (h.out.new c hc).2 fun hh => h.ne c hc hh, f, fun c hc hy' => ?_⟩
  rcases ho with h1 | h1 | ⟨c', h1, h2⟩
  · rw [h1] at hy'; cases hy'
  · rw [h1] at hy'; exact h.ne c hc hy'
  · rw [h1] at hy'
    cases hy'
    have := (h.out.new c hc).2
    omega

end
end Go.Proofs.YtlhbidbdmdcdeaaGreatDoor


/-
  LogTurned: a byte that is turned behind a frame's length ends the reading ahead of that frame. No conditions but those named in each line.
-/
namespace Go.Proofs.YtlhbidbdmdcdeaaGreatDoor
open Go Go.Abs Go.Abs.F
set_option linter.unusedVariables false

section
variable {s t : St} {x y : S} {l m : List Ent} {bs : Bs}

end
end Go.Proofs.YtlhbidbdmdcdeaaGreatDoor


/-
  EntryBack, run. No conditions but those named in each line.
-/
namespace Go.Proofs.YtlhbidbdmdcdeaaGreatDoor
open Go Go.Abs Go.Abs.F
set_option linter.unusedVariables false
section
variable {s : St} {x y z : S} {bs : Bs}

theorem slot (wf : s.wf) (e : Ent) : ∃ s1 s2, aNew s (nCells [.int .i64 0, .int .i64 0, .int .i64 0, .int .i64 0, .int .i64 0, .int .i64 0, .int .u32 0, .str []]) = some (Z (.ptr s.size 0), s1) ∧ aStore 8 (Z (.ptr s.size 0)) (AE e) s1 = some (tt, s2) ∧ Gr s s2 ∧ s2.get s.size = some (.cells true (cE e)) ∧ s.size < s2.size := by
  have b0 : (s.push (.cells true (cE ent0))).get s.size = some (.cells true (cE ent0)) := St.get_push_same _ _
  refine ⟨s.push (.cells true (cE ent0)), _, rfl, store8 b0 rfl, ⟨St.wf_set (St.wf_push wf _) (by simp) _, by simp, fun c hc => by rw [St.get_set_ne _ _ (by omega), St.get_push_ne _ _ (by omega)]⟩, St.get_set_same _ _ _, by simp⟩

end
end Go.Proofs.YtlhbidbdmdcdeaaGreatDoor


/-
  The document's own reader of entries, whole. No conditions but those named in each line.
-/
namespace Go.Proofs.YtlhbidbdmdcdeaaGreatDoor
open Go Go.Abs Go.Abs.F
set_option linter.unusedVariables false

structure Rdr (s0 u : St) (c e : Nat) (b : Bs) (at_ : Nat) (bad : Bool) (w : Ent) : Prop where
  wf : u.wf
  sz : s0.size ≤ u.size
  old : ∀ k, k < s0.size → u.get k = s0.get k
  c0 : s0.size ≤ c
  e0 : s0.size ≤ e
  ne : e ≠ c
  rd : u.get c = some (.cells true (cC b at_ bad))
  en : u.get e = some (.cells true (cE w))
  le : at_ ≤ b.length

section
variable {s0 u : St} {c e at_ : Nat} {b : Bs} {bad : Bool} {w : Ent}

theorem Rdr.num (d : Nat) (h : Rdr s0 u c e b at_ bad w) (hl : b.length ≤ 100000) : ∃ u', R (d + 2) 58 [Z (.ptr c 0)] u = some (I .u64 ((rnum b at_ bad).1 : Nat), u') ∧ Rdr s0 u' c e b (rnum b at_ bad).2.1 (rnum b at_ bad).2.2 w := by
  obtain ⟨t, e1, r, bt, le⟩ := rnum_run d h.wf h.rd hl h.le
  have := h.c0
  exact ⟨t, e1, bt.1, Nat.le_trans h.sz bt.2.1, fun k hk => by rw [bt.2.2 k (Nat.lt_of_lt_of_le hk h.sz) (by omega)]; exact h.old k hk, h.c0, h.e0, h.ne, r, by rw [bt.2.2 e (h.wf.lt h.en) h.ne]; exact h.en, le⟩

theorem Rdr.set (h : Rdr s0 u c e b at_ bad w) {j : Nat} {v : S} {w' : Ent} (hj : j < 8) (hw : (cE w).set j v = cE w') : ∃ u', aStore 1 (Z (.ptr e j)) (Z v) u = some (tt, u') ∧ Rdr s0 u' c e b at_ bad w' := by
  have s1 := aStore1_of (σ := u) (i := e) (o := j) (x := v) h.en (by rw [cE_len]; exact hj)
  have he0 := h.e0
  refine ⟨_, s1, St.wf_set h.wf (h.wf.lt h.en) _, by simpa using h.sz, fun k hk => by rw [St.get_set_ne _ _ (by omega)]; exact h.old k hk, h.c0, h.e0, h.ne, by rw [St.get_set_ne _ _ (fun x => h.ne x.symm)]; exact h.rd, ?_, h.le⟩
  rw [← hw]
  exact St.get_set_same _ _ _

theorem Rdr.text (d : Nat) (h : Rdr s0 u c e b at_ bad w) (hl : b.length ≤ 100000) {n : Nat} : ∃ u', R (d + 1) 59 [Z (.ptr c 0), I .u64 (n : Nat)] u = some (Z (.str (rtext b n at_ bad).1), u') ∧ Rdr s0 u' c e b (rtext b n at_ bad).2.1 (rtext b n at_ bad).2.2 w := by
  obtain ⟨t, e1, r, bt⟩ := rtext_run (n := n) d h.wf h.rd hl h.le
  have := h.c0
  have hle := h.le
  refine ⟨t, e1, bt.1, Nat.le_trans h.sz bt.2.1, fun k hk => by rw [bt.2.2 k (Nat.lt_of_lt_of_le hk h.sz) (by omega)]; exact h.old k hk, h.c0, h.e0, h.ne, r, by rw [bt.2.2 e (h.wf.lt h.en) h.ne]; exact h.en, ?_⟩
  unfold rtext
  split
  · exact hle
  · rename_i hh
    have : ¬ b.length - at_ < n := fun x => hh (.inr x)
    show at_ + n ≤ b.length
    omega

theorem Rdr.nx (d : Nat) (h : Rdr s0 u c e b at_ bad w) (hl : b.length ≤ 100000) (most : Nat) (hm : most < 2 ^ 62) : ∃ u', (∃ n : Nat, R (d + 2) 58 [Z (.ptr c 0)] u = some (I .u64 (n : Nat), u') ∧ R (d + 2) 57 [I .u64 (n : Nat), I .u64 (most : Nat)] u' = some (I .i64 ((rnx b most at_ bad).1 : Nat), u')) ∧
    Rdr s0 u' c e b (rnx b most at_ bad).2.1 (rnx b most at_ bad).2.2 w := by
  obtain ⟨u', e1, h'⟩ := h.num d hl
  exact ⟨u', ⟨_, e1, small_run (d + 1) _ most hm⟩, h'⟩
end
end Go.Proofs.YtlhbidbdmdcdeaaGreatDoor


/-
  The document's own reader of entries, run. No conditions but those named in each line.
-/
namespace Go.Proofs.YtlhbidbdmdcdeaaGreatDoor
open Go Go.Abs Go.Abs.F
set_option linter.unusedVariables false
section
variable {s t : St} {b : Bs}

noncomputable def rgetTail (callf : CallF) (v41 : List T) (s42 : St) : Option (T × St) :=
  bd (aLoadN 8 (v41.getD 3 .any) s42.get) fun t59 =>
  bd2 (callf 32 [t59] s42) fun t60 s45 =>
  bd (aExtract t60 0) fun t61 =>
  bd (aExtract t60 1) fun t62 =>
  bd (aNil (v41.getD 2 .any)) fun t64 =>
  bd (aFieldAddr 2 t64) fun t65 =>
  bd (aLoad1 t65 s45.get) fun t66 =>
  bd (gT (gd t66 false) (some t62)) fun t68 =>
  bd (gT (gd t66 false) (aBin .neq t68 (I .i64 0))) fun t69 =>
  bd (aPick t66 (B true) t69) fun t70 =>
  bd (gT (gd t70 false) (some t61)) fun t72 =>
  bd (gT (gd t70 false) (some (v41.getD 0 .any))) fun t73 =>
  bd (gT (gd t70 false) (aBin .neq t72 t73)) fun t74 =>
  bd (aPick t70 (B true) t74) fun t75 =>
  br t75 (bd (asAggT (aFill [.int .i64 0, .int .i64 0, .int .i64 0, .int .i64 0, .int .i64 0, .int .i64 0, .int .u32 0, .str []] [])) fun t76 =>
  bd2 (aStore 8 (v41.getD 1 .any) t76 s45) fun _ s46 =>
  bd (rC (aLoadN 8 (v41.getD 1 .any) s46.get) (rT (I .i64 2) (some []))) fun l47 => bd (retT l47) fun r48 =>
  some (r48, s46))
  (bd (aLoadN 8 (v41.getD 3 .any) s45.get) fun t77 =>
  bd2 (aStore 8 (v41.getD 1 .any) t77 s45) fun _ s49 =>
  bd (rC (aLoadN 8 (v41.getD 1 .any) s49.get) (rT (I .i64 0) (some []))) fun l50 => bd (retT l50) fun r51 =>
  some (r51, s49))

theorem neq_str (a b : Bs) : aBin .neq (Z (.str a)) (Z (.str b)) = some (B (!decide (a = b))) := by simp [aBin, aStr]

theorem rtail_run (d : Nat) {s0 u : St} {n c m at_ : Nat} {bad : Bool} {w : Ent} (h : Rdr s0 u c m b at_ bad w) (hn : n < s0.size) (bn : s0.get n = some (.cells true (cE ent0))) (hs : s.size ≤ n) (g0 : Gr s s0) (hw : EWf w) (hx : w.x.length ≤ 8000) :
    ∃ τ, rgetTail (R (d + 5)) [Z (.str b), Z (.ptr n 0), Z (.ptr c 0), Z (.ptr m 0)] u = some (resE (if bad = false ∧ putE w = some b then some w else none), τ) ∧ Gr s τ := by
  unfold rgetTail
  have hm0 := h.e0
  have hc0 := h.c0
  have l8 := load8 (g := u.get) h.en
  obtain ⟨v, e2, g2⟩ := rput_run d h.wf w hw hx
  have an : aNil (Z (.ptr c 0)) = some (Z (.ptr c 0)) := rfl
  have fa : aFieldAddr 2 (Z (.ptr c 0)) = some (Z (.ptr c 2)) := by simp [aFieldAddr]
  have rc : v.get c = some (.cells true (cC b at_ bad)) := g2.get h.rd h.wf
  have l2 : aLoad1 (Z (.ptr c 2)) v.get = some (B bad) := aLoad1_of rc rfl
  have rm : v.get m = some (.cells true (cE w)) := g2.get h.en h.wf
  have l9 := load8 (g := v.get) rm
  have vn : v.get n = some (.cells true (cE ent0)) := by rw [g2.2.2 n (Nat.lt_of_lt_of_le hn h.sz), h.old n hn]; exact bn
  have gs : ∀ bk : Blk, Gr s (v.set n bk) := fun bk => by
    have hz := g2.2.1
    have hz2 := h.sz
    refine ⟨St.wf_set g2.wf (by omega) _, by simp; have := g0.2.1; omega, fun k hk => ?_⟩
    rw [St.get_set_ne _ _ (by omega), g2.2.2 k (by omega), h.old k (by omega), g0.2.2 k hk]
  have fin : ∀ e', aStore 8 (Z (.ptr n 0)) (AE e') v = some (tt, v.set n (.cells true (cE e'))) ∧ aLoadN 8 (Z (.ptr n 0)) (v.set n (.cells true (cE e'))).get = some (AE e') := fun e' => ⟨store8 vn rfl, load8 (St.get_set_same _ _ _)⟩
  by_cases hp : bad = false ∧ putE w = some b
  · obtain ⟨rfl, hp2⟩ := hp
    rw [if_pos ⟨rfl, hp2⟩]
    rw [hp2] at e2
    obtain ⟨q1, q2⟩ := fin w
    have nq := neq_str b b
    refine ⟨v.set n (.cells true (cE w)), ?_, gs _⟩
    generalize v.set n (.cells true (cE w)) = v2 at *
    generalize R (d + 5) = r at *
    simp [l8, e2, aExtract, an, fa, l2, nq, l9, q1, q2, rC, rT, retT, allV]
  · rw [if_neg hp]
    obtain ⟨q1, q2⟩ := fin ent0
    refine ⟨v.set n (.cells true (cE ent0)), ?_, gs _⟩
    generalize v.set n (.cells true (cE ent0)) = v2 at *
    cases bad with
    | true =>
      generalize R (d + 5) = r at *
      cases hq : putE w with
      | none => rw [hq] at e2; simp [l8, e2, aExtract, an, fa, l2, gtt, agg8, q1, q2, rC, rT, retT, allV]
      | some bs => rw [hq] at e2; simp [l8, e2, aExtract, an, fa, l2, gtt, agg8, q1, q2, rC, rT, retT, allV]
    | false =>
      generalize R (d + 5) = r at *
      cases hq : putE w with
      | none => rw [hq] at e2; simp [l8, e2, aExtract, an, fa, l2, gtt, agg8, q1, q2, rC, rT, retT, allV]
      | some bs =>
        rw [hq] at e2
        have hne : bs ≠ b := fun e => hp ⟨rfl, by rw [hq, e]⟩
        have nq := neq_str bs b
        rw [decide_eq_false hne] at nq
        simp [l8, e2, aExtract, an, fa, l2, nq, agg8, q1, q2, rC, rT, retT, allV]

set_option maxHeartbeats 4000000 in
theorem rget_e_run (d : Nat) (wf : s.wf) (hl : b.length ≤ 8000) : ∃ t, R (d + 6) 34 [Z (.str b)] s = some (resE (getE b), t) ∧ Gr s t := by
  rw [f34_run]
  unfold f34
  obtain ⟨n, hn⟩ : ∃ n, n = s.size := ⟨_, rfl⟩
  obtain ⟨s1, hs1⟩ : ∃ s1, s1 = s.push (.cells true (cE ent0)) := ⟨_, rfl⟩
  have nw1 : aNew s (nCells [.int .i64 0, .int .i64 0, .int .i64 0, .int .i64 0, .int .i64 0, .int .i64 0, .int .u32 0, .str []]) = some (Z (.ptr n 0), s1) := by rw [hs1, hn]; rfl
  have g1 : Gr s s1 := by rw [hs1]; exact Gr.push wf _
  have z1 : s1.size = n + 1 := by rw [hs1, hn]; rfl
  have b1 : s1.get n = some (.cells true (cE ent0)) := by rw [hs1, hn]; exact St.get_push_same _ _
  have ag1' : asAggT (aFill [.str [], .int .i64 0, .bool false] [(0, 1, Z (.str b))]) = some (.v (.agg (cC b 0 false))) := rfl
  obtain ⟨s2, hs2⟩ : ∃ s2, s2 = s1.push (.cells true (cC b 0 false)) := ⟨_, rfl⟩
  have nw2 : aNew s1 (nBox (.v (.agg (cC b 0 false)))) = some (Z (.ptr (n + 1) 0), s2) := by rw [hs2, ← z1]; rfl
  have g2 : Gr s1 s2 := by rw [hs2]; exact Gr.push g1.wf _
  have z2 : s2.size = n + 2 := by rw [hs2]; simp [z1]
  have b2 : s2.get (n + 1) = some (.cells true (cC b 0 false)) := by rw [hs2, ← z1]; exact St.get_push_same _ _
  obtain ⟨s3, e3, r3, bt3⟩ := rbyte_run (d + 4) g2.wf b2
  obtain ⟨a0, ha0⟩ : ∃ a0, a0 = if b = [] then 0 else 1 := ⟨_, rfl⟩
  obtain ⟨x0, hx0⟩ : ∃ x0, x0 = decide (b = []) := ⟨_, rfl⟩
  rw [← ha0, ← hx0] at r3
  obtain ⟨kb, hkb⟩ : ∃ kb, kb = (b.headD 0).toNat := ⟨_, rfl⟩
  rw [← hkb] at e3
  have hkl : kb < 256 := by rw [hkb]; exact (b.headD 0).toNat_lt
  have wk : IntKind.i64.wrap ((kb : Nat) : Int) = ((kb : Nat) : Int) := wrapi _ (by omega)
  obtain ⟨w0, hw0⟩ : ∃ w0 : Ent, w0 = { ent0 with k := (kb : Nat) } := ⟨_, rfl⟩
  have ag2 : asAggT (aFill [.int .i64 0, .int .i64 0, .int .i64 0, .int .i64 0, .int .i64 0, .int .i64 0, .int .u32 0, .str []] [(0, 1, I .i64 (kb : Nat))]) = some (AE w0) := by rw [hw0]; rfl
  obtain ⟨s4, hs4⟩ : ∃ s4, s4 = s3.push (.cells true (cE ent0)) := ⟨_, rfl⟩
  obtain ⟨m, hm⟩ : ∃ m, m = s3.size := ⟨_, rfl⟩
  have nw4 : aNew s3 (nCells [.int .i64 0, .int .i64 0, .int .i64 0, .int .i64 0, .int .i64 0, .int .i64 0, .int .u32 0, .str []]) = some (Z (.ptr m 0), s4) := by rw [hs4, hm]; rfl
  have b4 : s4.get m = some (.cells true (cE ent0)) := by rw [hs4, hm]; exact St.get_push_same _ _
  have hmn : n + 2 ≤ m := by have := bt3.2.1; omega
  have z4 : s4.size = m + 1 := by rw [hs4]; simp [hm]
  obtain ⟨s5, hs5⟩ : ∃ s5, s5 = s4.set m (.cells true (cE w0)) := ⟨_, rfl⟩
  have st5 := store8 (e := w0) b4 rfl
  rw [← hs5] at st5
  have st5' := st5
  have R5 : Rdr s1 s5 (n + 1) m b a0 x0 w0 := by
    refine ⟨by rw [hs5, hs4]; exact St.wf_set (St.wf_push bt3.1 _) (by simp [← hm]) _, by rw [hs5]; simp [z4]; omega, fun k hk => ?_, by omega, by omega, by omega, ?_, by rw [hs5]; exact St.get_set_same _ _ _, ?_⟩
    · rw [hs5, St.get_set_ne _ _ (by omega), hs4, St.get_push_ne _ _ (by omega), bt3.2.2 k (by omega) (by omega), g2.2.2 k hk]
    · rw [hs5, St.get_set_ne _ _ (by omega), hs4, St.get_push_ne _ _ (by omega)]; exact r3
    · rw [ha0]
      split
      · omega
      · rename_i h; exact List.length_pos_iff.2 h
  have hl5 : b.length ≤ 100000 := by omega
  obtain ⟨s6, ⟨v6, e6, e7⟩, R6⟩ := R5.nx (d + 3) hl5 1073741824 (by omega)
  obtain ⟨p, hp⟩ : ∃ p, p = rnx b 1073741824 a0 x0 := ⟨_, rfl⟩
  rw [← hp] at e7 R6
  obtain ⟨w1, hw1⟩ : ∃ w1 : Ent, w1 = { w0 with v := (p.1 : Nat) } := ⟨_, rfl⟩
  obtain ⟨s8, e8, R8⟩ := R6.set (j := 1) (v := .int .i64 (p.1 : Nat)) (w' := w1) (by omega) (by rw [hw1]; rfl)
  have l8 : aLoad1 (Z (.ptr m 0)) s8.get = some (I .i64 (kb : Nat)) := aLoad1_of R8.en (by rw [hw1, hw0]; rfl)
  have fe : ∀ j, aFieldAddr j (Z (.ptr m 0)) = some (Z (.ptr m j)) := fun j => by simp [aFieldAddr]
  have fc : ∀ j, aFieldAddr j (Z (.ptr (n + 1) 0)) = some (Z (.ptr (n + 1) j)) := fun j => by simp [aFieldAddr]
  have an : aNil (Z (.ptr (n + 1) 0)) = some (Z (.ptr (n + 1) 0)) := rfl
  have finq : ∀ (u : St) (a : Nat) (bad : Bool) (w : Ent), Rdr s1 u (n + 1) m b a bad w → EWf w → w.x.length ≤ 8000 → ∃ τ, rgetTail (R (d + 5)) [Z (.str b), Z (.ptr n 0), Z (.ptr (n + 1) 0), Z (.ptr m 0)] u = some (resE (if bad = false ∧ putE w = some b then some w else none), τ) ∧ Gr s τ := fun u a bad w h hw hx =>
    rtail_run d h (by omega) b1 (by omega) g1 hw hx
  have nxq : ∀ (u : St) (a : Nat) (bad : Bool) (w : Ent), Rdr s1 u (n + 1) m b a bad w → ∀ most, most < 2 ^ 62 → ∃ u', (∃ v : Nat, R (d + 5) 58 [Z (.ptr (n + 1) 0)] u = some (I .u64 (v : Nat), u') ∧ R (d + 5) 57 [I .u64 (v : Nat), I .u64 (most : Nat)] u' = some (I .i64 ((rnx b most a bad).1 : Nat), u')) ∧
      Rdr s1 u' (n + 1) m b (rnx b most a bad).2.1 (rnx b most a bad).2.2 w := fun u a bad w h most hm => h.nx (d + 3) hl5 most hm
  have hw1' : EWf w1 := by rw [hw1, hw0]; exact ⟨Int.le_refl 0, (by decide : (0 : Int) < 4294967296)⟩
  have hx1 : w1.x.length ≤ 8000 := by rw [hw1, hw0]; simp [ent0]
  rw [rget_eq' b]
  clear bt3 r3 g2 R5 R6 st5
  simp only [Nat.add_assoc, Nat.reduceAdd] at e3 e6 e7
  by_cases k1 : kb = 1
  · have d1 : decide (((kb : Nat) : Int) = 1) = true := decide_eq_true (by omega)
    obtain ⟨u1, ⟨x1, a1, c1⟩, r1⟩ := nxq s8 _ _ _ R8 1073741824 (by omega)
    obtain ⟨I1, hI1⟩ : ∃ I1, I1 = rnx b 1073741824 p.2.1 p.2.2 := ⟨_, rfl⟩
    rw [← hI1] at c1 r1
    obtain ⟨u2, ⟨x2, a2, c2⟩, r2⟩ := nxq u1 _ _ _ r1 4 (by omega)
    obtain ⟨T1, hT1⟩ : ∃ T1, T1 = rnx b 4 I1.2.1 I1.2.2 := ⟨_, rfl⟩
    rw [← hT1] at c2 r2
    obtain ⟨u3, a3, r3⟩ := r2.set (j := 2) (v := .int .i64 (I1.1 : Nat)) (w' := { w1 with i := (I1.1 : Nat) }) (by omega) rfl
    obtain ⟨u4, a4, r4⟩ := r3.set (j := 3) (v := .int .i64 (T1.1 : Nat)) (w' := { w1 with i := (I1.1 : Nat), t := (T1.1 : Nat) }) (by omega) rfl
    obtain ⟨u5, ⟨x5, a5, c5⟩, r5⟩ := nxq u4 _ _ _ r4 1099511627776 (by omega)
    obtain ⟨F1, hF1⟩ : ∃ F1, F1 = rnx b 1099511627776 T1.2.1 T1.2.2 := ⟨_, rfl⟩
    rw [← hF1] at c5 r5
    obtain ⟨u6, ⟨x6, a6, c6⟩, r6⟩ := nxq u5 _ _ _ r5 1099511627776 (by omega)
    obtain ⟨O1, hO1⟩ : ∃ O1, O1 = rnx b 1099511627776 F1.2.1 F1.2.2 := ⟨_, rfl⟩
    rw [← hO1] at c6 r6
    obtain ⟨u7, a7, r7⟩ := r6.set (j := 4) (v := .int .i64 (F1.1 : Nat)) (w' := { w1 with i := (I1.1 : Nat), t := (T1.1 : Nat), f := (F1.1 : Nat) }) (by omega) rfl
    obtain ⟨u8, a8, r8⟩ := r7.set (j := 5) (v := .int .i64 (O1.1 : Nat)) (w' := { w1 with i := (I1.1 : Nat), t := (T1.1 : Nat), f := (F1.1 : Nat), o := (O1.1 : Nat) }) (by omega) rfl
    obtain ⟨u9, a9, r9⟩ := r8.num (d + 3) hl5
    obtain ⟨U1, hU1⟩ : ∃ U1, U1 = rnum b O1.2.1 O1.2.2 := ⟨_, rfl⟩
    rw [← hU1] at a9 r9
    have wU : IntKind.u32.wrap ((U1.1 : Nat) : Int) = ((U1.1 % 4294967296 : Nat) : Int) := wrap32 _
    obtain ⟨u10, a10, r10⟩ := r9.set (j := 6) (v := .int .u32 (U1.1 % 4294967296 : Nat)) (w' := { w1 with i := (I1.1 : Nat), t := (T1.1 : Nat), f := (F1.1 : Nat), o := (O1.1 : Nat), u := (U1.1 % 4294967296 : Nat) }) (by omega) rfl
    obtain ⟨τ, et, gt⟩ := finq u10 _ _ _ r10 ⟨Int.natCast_nonneg _, by show ((U1.1 % 4294967296 : Nat) : Int) < 4294967296; omega⟩ hx1
    have hres : rgetF b = ({ w1 with i := (I1.1 : Nat), t := (T1.1 : Nat), f := (F1.1 : Nat), o := (O1.1 : Nat), u := (U1.1 % 4294967296 : Nat) }, U1.2.2) := by
      unfold rgetF
      simp only [← hkb, ← ha0, ← hx0, ← hp, ← hI1, ← hT1, ← hF1, ← hO1, ← hU1, if_pos k1, hw1, hw0]
    rw [hres]
    refine ⟨τ, ?_, gt⟩
    clear nxq finq r1 r2 r3 r4 r5 r6 r7 r8 r9 r10 hres R8
    unfold rgetTail at et
    simp only [] at et ⊢
    generalize resE (if U1.2.2 = false ∧ putE { w1 with i := (I1.1 : Nat), t := (T1.1 : Nat), f := (F1.1 : Nat), o := (O1.1 : Nat), u := (U1.1 % 4294967296 : Nat) } = some b then some { w1 with i := (I1.1 : Nat), t := (T1.1 : Nat), f := (F1.1 : Nat), o := (O1.1 : Nat), u := (U1.1 % 4294967296 : Nat) } else none) = RES at *
    simp only [Nat.add_assoc, Nat.reduceAdd] at a9
    generalize R (d + 5) = r at *
    generalize ((p.1 : Nat) : Int) = PV at *
    generalize ((I1.1 : Nat) : Int) = IV at *
    generalize ((T1.1 : Nat) : Int) = TV at *
    generalize ((F1.1 : Nat) : Int) = FV at *
    generalize ((O1.1 : Nat) : Int) = OV at *
    generalize ((U1.1 % 4294967296 : Nat) : Int) = UM at *
    generalize ((U1.1 : Nat) : Int) = UV at *
    generalize ((x1 : Nat) : Int) = X1 at *
    generalize ((x2 : Nat) : Int) = X2 at *
    generalize ((x5 : Nat) : Int) = X5 at *
    generalize ((x6 : Nat) : Int) = X6 at *
    generalize ((v6 : Nat) : Int) = V6 at *
    generalize ((kb : Nat) : Int) = KB at *
    have e7' : r 57 [I .u64 V6, I .u64 1073741824] s6 = some (I .i64 PV, s6) := e7
    have c1' : r 57 [I .u64 X1, I .u64 1073741824] u1 = some (I .i64 IV, u1) := c1
    have c2' : r 57 [I .u64 X2, I .u64 4] u2 = some (I .i64 TV, u2) := c2
    have c5' : r 57 [I .u64 X5, I .u64 1099511627776] u5 = some (I .i64 FV, u5) := c5
    have c6' : r 57 [I .u64 X6, I .u64 1099511627776] u6 = some (I .i64 OV, u6) := c6
    simpa [nw1, ag1', nw2, e3, wk, ag2, nw4, st5', e6, e7', fe, e8, l8, d1, a1, c1', a2, c2', a3, a4, a5, c5', a6, c6', a7, a8, a9, wU, a10] using et
  · have d1 : decide (((kb : Nat) : Int) = 1) = false := decide_eq_false (by omega)
    by_cases k2 : kb = 2
    · have d2 : decide (((kb : Nat) : Int) = 2) = true := decide_eq_true (by omega)
      obtain ⟨u1, ⟨x1, a1, c1⟩, r1⟩ := nxq s8 _ _ _ R8 1073741824 (by omega)
      obtain ⟨I1, hI1⟩ : ∃ I1, I1 = rnx b 1073741824 p.2.1 p.2.2 := ⟨_, rfl⟩
      rw [← hI1] at c1 r1
      obtain ⟨u3, a3, r3⟩ := r1.set (j := 2) (v := .int .i64 (I1.1 : Nat)) (w' := { w1 with i := (I1.1 : Nat) }) (by omega) rfl
      obtain ⟨τ, et, gt⟩ := finq u3 _ _ _ r3 ⟨hw1'.1, hw1'.2⟩ hx1
      have hres : rgetF b = ({ w1 with i := (I1.1 : Nat) }, I1.2.2) := by
        unfold rgetF
        simp only [← hkb, ← ha0, ← hx0, ← hp, ← hI1, if_neg k1, if_pos k2, hw1, hw0]
      rw [hres]
      refine ⟨τ, ?_, gt⟩
      clear nxq finq r1 r3 hres R8
      unfold rgetTail at et
      simp only [] at et ⊢
      generalize resE (if I1.2.2 = false ∧ putE { w1 with i := (I1.1 : Nat) } = some b then some { w1 with i := (I1.1 : Nat) } else none) = RES at *
      generalize R (d + 5) = r at *
      generalize ((p.1 : Nat) : Int) = PV at *
      generalize ((I1.1 : Nat) : Int) = IV at *
      generalize ((x1 : Nat) : Int) = X1 at *
      generalize ((v6 : Nat) : Int) = V6 at *
      generalize ((kb : Nat) : Int) = KB at *
      have e7' : r 57 [I .u64 V6, I .u64 1073741824] s6 = some (I .i64 PV, s6) := e7
      have c1' : r 57 [I .u64 X1, I .u64 1073741824] u1 = some (I .i64 IV, u1) := c1
      simpa [nw1, ag1', nw2, e3, wk, ag2, nw4, st5', e6, e7', fe, e8, l8, d1, d2, a1, c1', a3] using et
    · have d2 : decide (((kb : Nat) : Int) = 2) = false := decide_eq_false (by omega)
      by_cases k4 : kb = 4
      · have d4 : decide (((kb : Nat) : Int) = 4) = true := decide_eq_true (by omega)
        obtain ⟨u1, a1, r1⟩ := R8.num (d + 3) hl5
        obtain ⟨M1, hM1⟩ : ∃ M1, M1 = rnum b p.2.1 p.2.2 := ⟨_, rfl⟩
        rw [← hM1] at a1 r1
        obtain ⟨u2, a2, r2⟩ := r1.text (d + 4) hl5 (n := M1.1)
        obtain ⟨X1, hX1⟩ : ∃ X1, X1 = rtext b M1.1 M1.2.1 M1.2.2 := ⟨_, rfl⟩
        rw [← hX1] at a2 r2
        obtain ⟨u3, a3, r3⟩ := r2.set (j := 7) (v := .str X1.1) (w' := { w1 with x := X1.1 }) (by omega) rfl
        have hxl : X1.1.length ≤ 8000 := by
          rw [hX1]
          unfold rtext
          split
          · simp
          · simp; omega
        obtain ⟨τ, et, gt⟩ := finq u3 _ _ _ r3 ⟨hw1'.1, hw1'.2⟩ hxl
        have hres : rgetF b = ({ w1 with x := X1.1 }, X1.2.2) := by
          unfold rgetF
          simp only [← hkb, ← ha0, ← hx0, ← hp, ← hM1, ← hX1, if_neg k1, if_neg k2, if_pos k4, hw1, hw0]
        rw [hres]
        refine ⟨τ, ?_, gt⟩
        clear nxq finq r1 r2 r3 hres R8
        unfold rgetTail at et
        simp only [] at et ⊢
        generalize resE (if X1.2.2 = false ∧ putE { w1 with x := X1.1 } = some b then some { w1 with x := X1.1 } else none) = RES at *
        simp only [Nat.add_assoc, Nat.reduceAdd] at a1 a2
        generalize R (d + 5) = r at *
        generalize ((p.1 : Nat) : Int) = PV at *
        generalize ((M1.1 : Nat) : Int) = MV at *
        generalize ((v6 : Nat) : Int) = V6 at *
        generalize ((kb : Nat) : Int) = KB at *
        have e7' : r 57 [I .u64 V6, I .u64 1073741824] s6 = some (I .i64 PV, s6) := e7
        simpa [nw1, ag1', nw2, e3, wk, ag2, nw4, st5', e6, e7', fe, e8, l8, d1, d2, d4, a1, a2, a3] using et
      · have d4 : decide (((kb : Nat) : Int) = 4) = false := decide_eq_false (by omega)
        obtain ⟨τ, et, gt⟩ := finq s8 _ _ _ R8 hw1' hx1
        have hres : rgetF b = (w1, p.2.2) := by
          unfold rgetF
          simp only [← hkb, ← ha0, ← hx0, ← hp, if_neg k1, if_neg k2, if_neg k4, hw1, hw0]
        rw [hres]
        refine ⟨τ, ?_, gt⟩
        clear nxq finq hres R8
        unfold rgetTail at et
        simp only [] at et ⊢
        generalize resE (if p.2.2 = false ∧ putE w1 = some b then some w1 else none) = RES at *
        generalize R (d + 5) = r at *
        generalize ((p.1 : Nat) : Int) = PV at *
        generalize ((v6 : Nat) : Int) = V6 at *
        generalize ((kb : Nat) : Int) = KB at *
        have e7' : r 57 [I .u64 V6, I .u64 1073741824] s6 = some (I .i64 PV, s6) := e7
        simpa [nw1, ag1', nw2, e3, wk, ag2, nw4, st5', e6, e7', fe, e8, l8, d1, d2, d4] using et
end
end Go.Proofs.YtlhbidbdmdcdeaaGreatDoor


/-
  EntryAsks, run. No conditions but those named in each line.
-/
namespace Go.Proofs.YtlhbidbdmdcdeaaGreatDoor
open Go Go.Abs Go.Abs.F
set_option linter.unusedVariables false
section
variable {s t : St} {x y : S} {l : List Ent} {b : Bs}

def codeM (e : Ent) : Int := if mayE e = true then 0 else 1
theorem putU_run (d : Nat) (wf : s.wf) {e : Ent} (hw : EWf e) : ∃ y t, R (d + 9) 31 [AE e] s = some (.tup [.s y, .s (.int .i64 (codeM e))], t) ∧ Gr s t ∧ RB t y ((putE e).getD []) ∧ ∀ c, own y = some c → c < t.size := by
  unfold codeM putE
  by_cases h : mayE e = true
  · obtain ⟨y, t, e1, f⟩ := put_run d wf h hw
    rw [if_pos h, if_pos h]
    exact ⟨y, t, e1, f.gr, f.rd, fun c hc => (f.new c hc).2⟩
  · have h' : mayE e = false := by cases hh : mayE e with
      | true => exact (h hh).elim
      | false => rfl
    obtain ⟨t, e1, g⟩ := put_bad d wf h'
    rw [if_neg h, if_neg h]
    exact ⟨.nils, t, e1, g, Rd.nil 1 t, fun c hc => by cases hc⟩
theorem resS_of (e : Ent) : resS (putE e) = .tup [.s (.str ((putE e).getD [])), .s (.int .i64 (codeM e))] := by
  unfold codeM putE
  by_cases h : mayE e = true
  · rw [if_pos h, if_pos h]; rfl
  · rw [if_neg h, if_neg h]; rfl

def codeG (o : Option Ent) : Int := if o.isSome = true then 0 else 2
theorem resE_of (o : Option Ent) : resE o = .tup [.agg (cE (o.getD ent0)), .s (.int .i64 (codeG o))] := by
  cases o <;> rfl

theorem few_all (h : fewP l = true) : (∀ e ∈ l, e.x.length ≤ 400) ∧ l.length ≤ 60 := by
  unfold fewP at h
  rw [Bool.and_eq_true, List.all_eq_true] at h
  exact ⟨fun e he => by simpa using h.1 e he, by simpa using h.2⟩

set_option maxHeartbeats 8000000 in
theorem easks_run (d : Nat) (wf : s.wf) (hx : RE s x l) (hox : ∀ c, own x = some c → c < s.size) (hw : ∀ e ∈ l, EWf e) (hln : l.length < 9223372036854775808) {a c : Ent} (wa : EWf a) (wc : EWf c)
    (hb : RB s y b) (hob : ∀ c, own y = some c → c < s.size) : ∃ t, R (d + 12) 10 [Z x, AE a, AE c, Z y] s = some (B true, t) := by
  rw [f10_run]
  unfold f10
  obtain ⟨na, hna⟩ : ∃ na, na = s.size := ⟨_, rfl⟩
  obtain ⟨s1, hs1⟩ : ∃ s1, s1 = s.push (.cells true (cE a)) := ⟨_, rfl⟩
  have nw1 : aNew s (nBox (AE a)) = some (Z (.ptr na 0), s1) := by rw [hs1, hna]; rfl
  have g1 : Gr s s1 := by rw [hs1]; exact Gr.push wf _
  have b1 : s1.get na = some (.cells true (cE a)) := by rw [hs1, hna]; exact St.get_push_same _ _
  obtain ⟨nc, hnc⟩ : ∃ nc, nc = s1.size := ⟨_, rfl⟩
  obtain ⟨s2, hs2⟩ : ∃ s2, s2 = s1.push (.cells true (cE c)) := ⟨_, rfl⟩
  have nw2 : aNew s1 (nBox (AE c)) = some (Z (.ptr nc 0), s2) := by rw [hs2, hnc]; rfl
  have g12 : Gr s1 s2 := by rw [hs2]; exact Gr.push g1.wf _
  have c2 : s2.get nc = some (.cells true (cE c)) := by rw [hs2, hnc]; exact St.get_push_same _ _
  have b2 : s2.get na = some (.cells true (cE a)) := g12.get b1 g1.wf
  have g2 := g1.trans g12
  have x2 : RE s2 x l := hx.gr hox g2
  have y2 : RB s2 y b := hb.gr hob g2
  have k2 := few_run (d + 10) x2 hln
  have la2 := load8 (g := s2.get) b2
  have lc2 := load8 (g := s2.get) c2
  have tl := fun st => told9_run (d + 10) st
  have lb2 := y2.lenB
  simp only [Nat.add_assoc, Nat.reduceAdd] at k2 tl
  cases hf : fewP l with
  | false =>
    rw [hf] at k2
    refine ⟨s2, ?_⟩
    generalize R (d + 11) = r at *
    simp [nw1, nw2, k2, tl]
  | true =>
    rw [hf] at k2
    have L4 := Fr.lit 8 g2.wf (n := 2) (vs := cells cE [a, c]) (by simp [cE])
    obtain ⟨s4, hs4⟩ : ∃ s4, s4 = s2.push (.cells true (cells cE [a, c])) := ⟨_, rfl⟩
    rw [← hs4] at L4
    have nw4 : aNew s2 (nSlice 2 (aFill [.int .i64 0, .int .i64 0, .int .i64 0, .int .i64 0, .int .i64 0, .int .i64 0, .int .u32 0, .str [], .int .i64 0, .int .i64 0, .int .i64 0, .int .i64 0, .int .i64 0, .int .i64 0, .int .u32 0, .str []] [(0, 8, AE a), (8, 8, AE c)])) = some (Z (.sl s2.size 0 2 (.known 2)), s4) := by rw [hs4]; rfl
    have r4 : RE s4 (.sl s2.size 0 2 (.known 2)) [a, c] := L4.rd
    have k4 := few_run (d + 10) r4 (by simp)
    simp only [Nat.add_assoc, Nat.reduceAdd] at k4
    have b4 : s4.get na = some (.cells true (cE a)) := L4.gr.get b2 g2.wf
    have c4 : s4.get nc = some (.cells true (cE c)) := L4.gr.get c2 g2.wf
    have la4 := load8 (g := s4.get) b4
    cases hf2 : fewP [a, c] with
    | false =>
      rw [hf2] at k4
      refine ⟨s4, ?_⟩
      generalize R (d + 11) = r at *
      generalize s2.size = z2 at *
      simp [nw1, nw2, k2, la2, lc2, nw4, k4, tl]
    | true =>
      rw [hf2] at k4
      by_cases hlen : b.length ≤ 400
      · obtain ⟨hxl, hl60⟩ := few_all hf
        obtain ⟨hxa, _⟩ := few_all hf2
        have hxa' := hxa a (by simp)
        have hcl : ¬ (400 : Int) < ((b.length : Nat) : Int) := by omega
        have g04 : Gr s s4 := g2.trans L4.gr
        obtain ⟨p5, s5, e5, g5, rb5, op5⟩ := putU_run (d + 2) L4.gr.wf wa
        have b5 := g5.get b4 L4.gr.wf
        have la5 := load8 (g := s5.get) b5
        obtain ⟨s6, e6, g6⟩ := rput_run (d + 6) g5.wf a wa (by omega)
        rw [resS_of] at e6
        have g06 := (g04.trans g5).trans g6
        have y6 : RB s6 y b := hb.gr hob g06
        have oy6 : ∀ c, own y = some c → c < s6.size := fun c hc => Nat.lt_of_lt_of_le (hob c hc) g06.2.1
        obtain ⟨s7, e7, g7⟩ := get_run (d + 1) g6.wf y6 oy6 (by omega)
        rw [resE_of] at e7
        obtain ⟨o, ho⟩ : ∃ o, o = getE b := ⟨_, rfl⟩
        rw [← ho] at e7
        obtain ⟨s8, s9, nw9, st9, g9, b9, z9⟩ := slot g7.wf (o.getD ent0)
        have g69 := g7.trans g9
        have y9 : RB s9 y b := y6.gr oy6 g69
        have bs9 := y9.str
        obtain ⟨s10, e10, g10⟩ := rget_e_run (d + 5) g9.wf (b := b) (by omega)
        rw [resE_of, ← ho] at e10
        obtain ⟨s11, s12, nw12, st12, g12', b12, z12⟩ := slot g10.wf (o.getD ent0)
        have g912 := g10.trans g12'
        have g012 := (g06.trans g69).trans g912
        have x12 : RE s12 x l := hx.gr hox g012
        have ox12 : ∀ c, own x = some c → c < s12.size := fun c hc => Nat.lt_of_lt_of_le (hox c hc) g012.2.1
        obtain ⟨i13, s13, e13, g13, ri13, oi13⟩ := foldU_run d g012.wf x12 ox12 (by omega)
        obtain ⟨r, hr⟩ : ∃ r, r = foldGo fs0 l := ⟨_, rfl⟩
        rw [← hr] at e13 ri13
        obtain ⟨s14, s15, nw15, st15, g15, b15, z15⟩ := polBox g13.wf (resQ r)
        have g1215 := g13.trans g15
        have x15 : RE s15 x l := x12.gr ox12 g1215
        have ox15 : ∀ c, own x = some c → c < s15.size := fun c hc => Nat.lt_of_lt_of_le (ox12 c hc) g1215.2.1
        obtain ⟨i16, s16, e16, g16, ri16, oi16⟩ := rfoldU_run (d + 6) g15.wf x15 ox15 (by omega) (fun e he => by have := hxl e he; omega)
        rw [← hr] at e16 ri16
        obtain ⟨s17, s18, nw18, st18, g18, b18, z18⟩ := polBox g16.wf (resQ r)
        have g1518 := g16.trans g18
        have g1218 := g1215.trans g1518
        have g518 := (((g6.trans g7).trans g9).trans g912).trans g1218
        have ps := RB.str (rb5.gr op5 g518)
        have l9 : aLoadN 8 (Z (.ptr s7.size 0)) s18.get = some (AE (o.getD ent0)) := load8 ((g912.trans g1218).get b9 g9.wf)
        have l12 : aLoadN 8 (Z (.ptr s10.size 0)) s18.get = some (AE (o.getD ent0)) := load8 (g1218.get b12 g12'.wf)
        have q13 : aLoadN 6 (Z (.ptr s13.size 0)) s18.get = some (AP (resQ r)) := load6 (g1518.get b15 g15.wf)
        have q16 : aLoadN 6 (Z (.ptr s16.size 0)) s18.get = some (AP (resQ r)) := load6 b18
        have i18 : RI s18 i13 (resL r) := ri13.gr oi13 (g15.trans g1518)
        have j18 : RI s18 i16 (resL r) := ri16.gr oi16 g18
        have hlr : (resL r).length ≤ 8000 := by
          have h2 : ∀ (l : List Ent) (q : FoS), (foldGo q l).2.ever.length ≤ q.ever.length + l.length := by
            intro l
            induction l with
            | nil => intro q; exact Nat.le_refl _
            | cons e l ih =>
              intro q
              rw [foldGo_cons]
              split
              · have := ih (nextP q e)
                have := next_ever (q := q) (e := e)
                simp only [List.length_cons]
                omega
              · simp only [List.length_cons]; omega
          have h3 := h2 l fs0
          have hok := foldGo_ok l fs0 fs0_ok
          rw [← hr] at h3 hok
          have h4 : fs0.ever.length = 0 := rfl
          have := hok.len
          unfold resL
          split
          · omega
          · simp
        have si := sameInfo_run (d + 9) i18 j18 hlr
        rw [decide_eq_true rfl] at si
        have sj := rsameI_run (d + 10) i18 j18 hlr
        rw [decide_eq_true rfl] at sj
        have eqP := eqBP (resQ r) (resQ r)
        rw [decide_eq_true rfl] at eqP
        have eqE := eqBE (o.getD ent0) (o.getD ent0)
        rw [decide_eq_true rfl] at eqE
        have b18a : s18.get na = some (.cells true (cE a)) := g518.get b5 g5.wf
        have c18 : s18.get nc = some (.cells true (cE c)) := g518.get (g5.get c4 L4.gr.wf) g5.wf
        have m18 := load8 (g := s18.get) b18a
        obtain ⟨s19, e19, g19⟩ := mayE_run (d + 3) g18.wf a
        have b19 := g19.get b18a g18.wf
        have m19 := load8 (g := s19.get) b19
        obtain ⟨s20, e20, g20⟩ := rmayE_run (d + 7) g19.wf a (by omega)
        have b20 := g20.get b19 g19.wf
        have m20 := load8 (g := s20.get) b20
        have c20 := g20.get (g19.get c18 g18.wf) g19.wf
        have n20 := load8 (g := s20.get) c20
        obtain ⟨s21, e21, g21⟩ := same_run (d + 10) g20.wf a c
        have m21 := load8 (g := s21.get) (g21.get b20 g20.wf)
        have n21 := load8 (g := s21.get) (g21.get c20 g20.wf)
        have eqA := eqBE a c
        have g1821 := (g19.trans g20).trans g21
        have i21 : RI s21 i13 (resL r) := i18.gr (fun c hc => Nat.lt_of_lt_of_le (oi13 c hc) (g15.trans g1518).2.1) g1821
        have sn := sameInfo_run (d + 9) i21 (show RI s21 .nils [] from Rd.nil 5 s21) hlr
        have ll := i21.lens
        have hdec : decide (resL r = []) = decide (((resL r).length : Int) = 0) := decide_eq_decide.2 (by
          rw [← List.length_eq_zero_iff]; omega)
        rw [hdec] at sn
        have eqb : ∀ v : Bool, eqB .b (B v) (B v) = some (B true) := fun v => by cases v <;> rfl
        have sq : aBin .eql (Z (.str ((putE a).getD []))) (Z (.str ((putE a).getD []))) = some (B true) := by
          simp [aBin, aStr]
        simp only [Nat.add_assoc, Nat.reduceAdd, resU] at e5 e6 e7 e10 e13 e16 si sj e19 e20 e21 sn
        refine ⟨s21, ?_⟩
        clear hr hw hxl hxa hdec ho
        generalize R (d + 11) = rr at *
        generalize resL r = RL at *
        generalize resQ r = RQ at *
        generalize resV r = RV at *
        generalize r.1 = RC at *
        generalize o.getD ent0 = W at *
        generalize codeG o = CG at *
        generalize codeM a = CM at *
        generalize (putE a).getD [] = PB at *
        generalize mayE a = MA at *
        generalize decide (a = c) = DA at *
        generalize ((RL.length : Nat) : Int) = LR at *
        generalize ((b.length : Nat) : Int) = BL at *
        generalize s2.size = z2 at *
        generalize s7.size = z7 at *
        generalize s10.size = z10 at *
        generalize s13.size = z13 at *
        generalize s16.size = z16 at *
        simp [nw1, nw2, k2, la2, lc2, nw4, k4, lb2, hcl, la4, e5, aExtract, la5, e6, e7, nw9, st9, gtt, bs9, e10, nw12, st12, e13, nw15, st15, e16, nw18, st18, tl, ps, sq, l9, l12, eqE, q13, q16, eqP, si, sj, m18, e19, m19, e20, eqb, m20, n20, e21, m21, n21, eqA, sn, ll, wq]
      · have hcl : (400 : Int) < ((b.length : Nat) : Int) := by omega
        refine ⟨s4, ?_⟩
        generalize R (d + 11) = r at *
        generalize s2.size = z2 at *
        generalize ((b.length : Nat) : Int) = BL at *
        simp [nw1, nw2, k2, la2, lc2, nw4, k4, lb2, hcl, tl]
end
end Go.Proofs.YtlhbidbdmdcdeaaGreatDoor


/-
  Functions of the library in this program, as the kit lays them. No conditions.
-/
namespace Go.Proofs
open Go.Shelf
def Tryz.lays156_ren : Go.Shelf.Ren := ⟨fun | 156 => 79 | 165 => 93 | 166 => 94 | 169 => 95 | 240 => 106 | 241 => 107 | 276 => 118 | 277 => 119 | n => n, fun | 31 => 49 | 9 => 9 | 3 => 3 | 4 => 4 | 0 => 0 | 20 => 20 | 72 => 128 | 76 => 132 | 70 => 126 | 37 => 27 | 75 => 131 | 127 => 142 | 164 => 152 | 5 => 5 | 80 => 134 | n => n, fun | n => n⟩
theorem Tryz.lays156 : Go.Proofs.Lays.n156 Tryz.prog Tryz.lays156_ren := {
  mixed := by kernel_rfl
  f156 := Tryz.func79.trans (congrArg some (by kernel_rfl))
  f165 := Tryz.func93.trans (congrArg some (by kernel_rfl))
  f166 := Tryz.func94.trans (congrArg some (by kernel_rfl))
  f169 := Tryz.func95.trans (congrArg some (by kernel_rfl))
  f240 := Tryz.func106.trans (congrArg some (by kernel_rfl))
  f241 := Tryz.func107.trans (congrArg some (by kernel_rfl))
  f276 := Tryz.func118.trans (congrArg some (by kernel_rfl))
  f277 := Tryz.func119.trans (congrArg some (by kernel_rfl))
  t0 := Tryz.underlying0
  a0 := Tryz.isAgg0
  z0 := Tryz.sizeOf0
  v0 := Tryz.zeroValue0
  t3 := Tryz.underlying3
  a3 := Tryz.isAgg3
  z3 := Tryz.sizeOf3
  v3 := Tryz.zeroValue3
  t4 := Tryz.underlying4
  a4 := Tryz.isAgg4
  z4 := Tryz.sizeOf4
  v4 := Tryz.zeroValue4
  t9 := Tryz.underlying9
  a9 := Tryz.isAgg9
  z9 := Tryz.sizeOf9
  v9 := Tryz.zeroValue9
  t20 := Tryz.underlying20
  a20 := Tryz.isAgg20
  z20 := Tryz.sizeOf20
  v20 := Tryz.zeroValue20
  t31 := Tryz.underlying49
  a31 := Tryz.isAgg49
  z31 := Tryz.sizeOf49
  v31 := Tryz.zeroValue49
  t37 := Tryz.underlying27
  a37 := Tryz.isAgg27
  z37 := Tryz.sizeOf27
  v37 := Tryz.zeroValue27
  t70 := Tryz.underlying126
  a70 := Tryz.isAgg126
  z70 := Tryz.sizeOf126
  v70 := Tryz.zeroValue126
  t72 := Tryz.underlying128
  a72 := Tryz.isAgg128
  z72 := Tryz.sizeOf128
  v72 := Tryz.zeroValue128
  t75 := Tryz.underlying131
  a75 := Tryz.isAgg131
  z75 := Tryz.sizeOf131
  v75 := Tryz.zeroValue131
  t76 := Tryz.underlying132
  a76 := Tryz.isAgg132
  z76 := Tryz.sizeOf132
  v76 := Tryz.zeroValue132
  t127 := Tryz.underlying142
  a127 := Tryz.isAgg142
  z127 := Tryz.sizeOf142
  v127 := Tryz.zeroValue142
  t164 := Tryz.underlying152
  a164 := Tryz.isAgg152
  z164 := Tryz.sizeOf152
  v164 := Tryz.zeroValue152 }
theorem Tryz.Builder_Extra_156 : Builder.Extra Tryz.prog Tryz.lays156_ren := {
  sizeBuilder := by kernel_rfl
  liesBuilder := by kernel_rfl
  t5 := Tryz.underlying5
  a5 := Tryz.isAgg5
  z5 := Tryz.sizeOf5
  v5 := Tryz.zeroValue5
  infoByte := by kernel_rfl
  cellsByte := by kernel_rfl
  sizeByte := by kernel_rfl
  neB5 := by decide }
open Go.RowKit in
theorem Tryz.strings_Join_none (a : Option Addr) (c : Nat) (sep : ByteArray) (w : World) :
    Calls Tryz.prog 79 #[.slice a 0 c, .string sep] w fun e w' => e = .returned (.string ⟨#[]⟩) ∧ w' = w := Any.strings_Join_none Tryz.lays156 Tryz.Builder_Extra_156 a c sep w
open Go.RowKit in
theorem Tryz.strings_Join (bk o c : Nat) (xs : List ByteArray) (sep : ByteArray) (w : World) (hcells : ∀ (j : Nat) x, xs[j]? = some x → w.cell? ⟨bk, o + j, none⟩ = some (.string x)) (hbk : bk < w.heap.size) (hN : xs.length ≤ 140737488355328) (hcap : xs.length ≤ c) (hlen : (Lib.join (xs.map (·.data.toList)) sep.data.toList).length ≤ 140737488355328) :
    Calls Tryz.prog 79 #[.slice (some ⟨bk, o, none⟩) xs.length c, .string sep] w fun e w' => e = .returned (.string ⟨(Lib.join (xs.map (·.data.toList)) sep.data.toList).toArray⟩) ∧ Below w.heap.size w w' := Any.strings_Join Tryz.lays156 Tryz.Builder_Extra_156 bk o c xs sep w hcells hbk hN hcap hlen
def Tryz.lays219_ren : Go.Shelf.Ren := ⟨fun | 219 => 105 | 217 => 114 | 225 => 115 | 224 => 116 | 267 => 117 | 266 => 130 | 314 => 131 | n => n, fun | 9 => 9 | 3 => 3 | 4 => 4 | 5 => 5 | 46 => 22 | 146 => 163 | 51 => 23 | n => n, fun | 1 => 0 | n => n⟩
theorem Tryz.lays219 : Go.Proofs.Lays.n219 Tryz.prog Tryz.lays219_ren := {
  mixed := by kernel_rfl
  f217 := Tryz.func114.trans (congrArg some (by kernel_rfl))
  f219 := Tryz.func105.trans (congrArg some (by kernel_rfl))
  f224 := Tryz.func116.trans (congrArg some (by kernel_rfl))
  f225 := Tryz.func115.trans (congrArg some (by kernel_rfl))
  f266 := Tryz.func130.trans (congrArg some (by kernel_rfl))
  f267 := Tryz.func117.trans (congrArg some (by kernel_rfl))
  f314 := Tryz.func131.trans (congrArg some (by kernel_rfl))
  t3 := Tryz.underlying3
  a3 := Tryz.isAgg3
  z3 := Tryz.sizeOf3
  v3 := Tryz.zeroValue3
  t4 := Tryz.underlying4
  a4 := Tryz.isAgg4
  z4 := Tryz.sizeOf4
  v4 := Tryz.zeroValue4
  t5 := Tryz.underlying5
  a5 := Tryz.isAgg5
  z5 := Tryz.sizeOf5
  v5 := Tryz.zeroValue5
  t9 := Tryz.underlying9
  a9 := Tryz.isAgg9
  z9 := Tryz.sizeOf9
  v9 := Tryz.zeroValue9
  t46 := Tryz.underlying22
  a46 := Tryz.isAgg22
  z46 := Tryz.sizeOf22
  v46 := Tryz.zeroValue22
  t51 := Tryz.underlying23
  a51 := Tryz.isAgg23
  z51 := Tryz.sizeOf23
  v51 := Tryz.zeroValue23
  t146 := Tryz.underlying163
  a146 := Tryz.isAgg163
  z146 := Tryz.sizeOf163
  v146 := Tryz.zeroValue163
  g1 := by kernel_rfl }
open Go.RowKit Go.Lib in
theorem Tryz.stringslite_Index_one (s : ByteArray) (c : UInt8) (w : World) :
    Calls Tryz.prog 105 #[.string s, .string ⟨#[c]⟩] w fun e w' => e = .returned (.int .i64 (Lib.indexByte s.data.toList c)) ∧ w' = w := Any.stringslite_Index_one Tryz.lays219 s c w
def Tryz.lays143_ren : Go.Shelf.Ren := ⟨fun | 143 => 104 | 219 => 105 | 217 => 114 | 225 => 115 | 224 => 116 | 267 => 117 | 266 => 130 | 314 => 131 | n => n, fun | 9 => 9 | 3 => 3 | 4 => 4 | 5 => 5 | 46 => 22 | 146 => 163 | 51 => 23 | n => n, fun | 1 => 0 | n => n⟩
theorem Tryz.lays143 : Go.Proofs.Lays.n143 Tryz.prog Tryz.lays143_ren := {
  mixed := by kernel_rfl
  f143 := Tryz.func104.trans (congrArg some (by kernel_rfl))
  f217 := Tryz.func114.trans (congrArg some (by kernel_rfl))
  f219 := Tryz.func105.trans (congrArg some (by kernel_rfl))
  f224 := Tryz.func116.trans (congrArg some (by kernel_rfl))
  f225 := Tryz.func115.trans (congrArg some (by kernel_rfl))
  f266 := Tryz.func130.trans (congrArg some (by kernel_rfl))
  f267 := Tryz.func117.trans (congrArg some (by kernel_rfl))
  f314 := Tryz.func131.trans (congrArg some (by kernel_rfl))
  t3 := Tryz.underlying3
  a3 := Tryz.isAgg3
  z3 := Tryz.sizeOf3
  v3 := Tryz.zeroValue3
  t4 := Tryz.underlying4
  a4 := Tryz.isAgg4
  z4 := Tryz.sizeOf4
  v4 := Tryz.zeroValue4
  t5 := Tryz.underlying5
  a5 := Tryz.isAgg5
  z5 := Tryz.sizeOf5
  v5 := Tryz.zeroValue5
  t9 := Tryz.underlying9
  a9 := Tryz.isAgg9
  z9 := Tryz.sizeOf9
  v9 := Tryz.zeroValue9
  t46 := Tryz.underlying22
  a46 := Tryz.isAgg22
  z46 := Tryz.sizeOf22
  v46 := Tryz.zeroValue22
  t51 := Tryz.underlying23
  a51 := Tryz.isAgg23
  z51 := Tryz.sizeOf23
  v51 := Tryz.zeroValue23
  t146 := Tryz.underlying163
  a146 := Tryz.isAgg163
  z146 := Tryz.sizeOf163
  v146 := Tryz.zeroValue163
  g1 := by kernel_rfl }
open Go.RowKit Go.Lib in
theorem Tryz.strings_Index_one (s : ByteArray) (c : UInt8) (w : World) :
    Calls Tryz.prog 104 #[.string s, .string ⟨#[c]⟩] w fun e w' => e = .returned (.int .i64 (Lib.indexByte s.data.toList c)) ∧ w' = w := Any.strings_Index_one Tryz.lays143 s c w
def Tryz.lays138_ren : Go.Shelf.Ren := ⟨fun | 138 => 103 | 195 => 111 | 218 => 113 | 143 => 104 | 219 => 105 | 217 => 114 | 225 => 115 | 224 => 116 | 267 => 117 | 266 => 130 | 314 => 131 | n => n, fun | 9 => 9 | 3 => 3 | 4 => 4 | 5 => 5 | 0 => 0 | 46 => 22 | 146 => 163 | 51 => 23 | n => n, fun | 1 => 0 | n => n⟩
theorem Tryz.lays138 : Go.Proofs.Lays.n138 Tryz.prog Tryz.lays138_ren := {
  mixed := by kernel_rfl
  f138 := Tryz.func103.trans (congrArg some (by kernel_rfl))
  f143 := Tryz.func104.trans (congrArg some (by kernel_rfl))
  f195 := Tryz.func111.trans (congrArg some (by kernel_rfl))
  f217 := Tryz.func114.trans (congrArg some (by kernel_rfl))
  f218 := Tryz.func113.trans (congrArg some (by kernel_rfl))
  f219 := Tryz.func105.trans (congrArg some (by kernel_rfl))
  f224 := Tryz.func116.trans (congrArg some (by kernel_rfl))
  f225 := Tryz.func115.trans (congrArg some (by kernel_rfl))
  f266 := Tryz.func130.trans (congrArg some (by kernel_rfl))
  f267 := Tryz.func117.trans (congrArg some (by kernel_rfl))
  f314 := Tryz.func131.trans (congrArg some (by kernel_rfl))
  t0 := Tryz.underlying0
  a0 := Tryz.isAgg0
  z0 := Tryz.sizeOf0
  v0 := Tryz.zeroValue0
  t3 := Tryz.underlying3
  a3 := Tryz.isAgg3
  z3 := Tryz.sizeOf3
  v3 := Tryz.zeroValue3
  t4 := Tryz.underlying4
  a4 := Tryz.isAgg4
  z4 := Tryz.sizeOf4
  v4 := Tryz.zeroValue4
  t5 := Tryz.underlying5
  a5 := Tryz.isAgg5
  z5 := Tryz.sizeOf5
  v5 := Tryz.zeroValue5
  t9 := Tryz.underlying9
  a9 := Tryz.isAgg9
  z9 := Tryz.sizeOf9
  v9 := Tryz.zeroValue9
  t46 := Tryz.underlying22
  a46 := Tryz.isAgg22
  z46 := Tryz.sizeOf22
  v46 := Tryz.zeroValue22
  t51 := Tryz.underlying23
  a51 := Tryz.isAgg23
  z51 := Tryz.sizeOf23
  v51 := Tryz.zeroValue23
  t146 := Tryz.underlying163
  a146 := Tryz.isAgg163
  z146 := Tryz.sizeOf163
  v146 := Tryz.zeroValue163
  g1 := by kernel_rfl }
open Go.RowKit Go.Lib in
theorem Tryz.strings_Count_one (s : ByteArray) (c : UInt8) (w : World) :
    Calls Tryz.prog 103 #[.string s, .string ⟨#[c]⟩] w fun e w' => e = .returned (.int .i64 (Lib.countByte s.data.toList c)) ∧ w' = w := Any.strings_Count_one Tryz.lays138 s c w
end Go.Proofs


/-
  What our runs ask first is what the program does. No conditions.
-/
namespace Go.Proofs.YtlhbidbdmdcdeaaGreatDoor
open Go Go.Abs Go.Abs.F
set_option linter.unusedVariables false

theorem prim1_sound : CallSound Tryz.prog prim1 := by
  refine orP_sound (orP_sound (ixP_sound ?_ ?_) (joinP_sound ?_ ?_)) (pureP_sound (runQ_sound noPrim_sound 64 8) _)
  · intro f hf s c w
    have : f = 104 ∨ f = 105 := by simpa [ixs] using hf
    rcases this with rfl | rfl
    · exact Tryz.strings_Index_one s c w
    · exact Tryz.stringslite_Index_one s c w
  · exact fun s c w => Tryz.strings_Count_one s c w
  · exact fun a c sep w => Tryz.strings_Join_none a c sep w
  · exact fun bk o c xs sep w h1 h2 h3 h4 h5 => Tryz.strings_Join bk o c xs sep w h1 h2 h3 h4 h5

theorem prim3_sound : CallSound Tryz.prog prim3 := orP_sound (orP_sound (bigP_sound _ _) (orP_sound del_sound ins_sound)) prim1_sound
theorem prim_sound : CallSound Tryz.prog prim := orP_sound (toldP_sound (runQ_sound prim3_sound 64 16) told10_all) (orP_sound (toldP_sound (runQ_sound prim3_sound 64 16) told9_all) prim3_sound)
end Go.Proofs.YtlhbidbdmdcdeaaGreatDoor

