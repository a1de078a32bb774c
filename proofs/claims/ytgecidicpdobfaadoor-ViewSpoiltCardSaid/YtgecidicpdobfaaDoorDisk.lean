/-
  What the operations of a disk do, in any store. No conditions but those named in each line.
-/
import Derived.Test.YtgecidicpdobfaaDoorFile
namespace Go.Proofs.YtgecidicpdobfaaDoor
open Go Go.Abs Go.Abs.F
set_option linter.unusedVariables false

/-- A file: its name, its block, its slice, its bytes, how many are sure. -/
structure Fl where
  nm : List UInt8
  fb : Nat
  x : S
  l : List S
  sure : Nat

def ents (fs : List Fl) : List (S × V) := fs.map fun f => (S.str f.nm, V.s (.ptr f.fb 0))

/-- What a disk holds. -/
structure Dk (s : St) (i m : Nat) (room : Int) (fs : List Fl) : Prop where
  wf : s.wf
  ri : s.get i = some (.cells true [.int .i64 room, .map m])
  mp : s.get m = some (.map (ents fs))
  fl : ∀ (k : Nat) (f : Fl), fs[k]? = some f → s.get f.fb = some (.cells true [f.x, .int .i64 f.sure]) ∧ BS s f.x f.l ∧ f.sure ≤ f.l.length ∧ f.l.length ≤ 50000 ∧ f.fb ≠ i ∧ f.fb ≠ m ∧ ∀ c, own f.x = some c → c ≠ i ∧ c ≠ m
  ap : ∀ (k k' : Nat) (f f' : Fl), fs[k]? = some f → fs[k']? = some f' → (k ≠ k' → f.fb ≠ f'.fb) ∧ ∀ c, own f.x = some c → c ≠ f'.fb ∧ (k ≠ k' → own f'.x ≠ some c)
  nm : (fs.map (·.nm)).Nodup

/-- Nothing that was there has changed. -/
def Gr (s t : St) : Prop := t.wf ∧ s.size ≤ t.size ∧ ∀ b, b < s.size → t.get b = s.get b

theorem Gr.refl {s : St} (wf : s.wf) : Gr s s := ⟨wf, Nat.le_refl _, fun _ _ => rfl⟩
theorem Gr.push {s : St} (wf : s.wf) (b : Blk) : Gr s (s.push b) := ⟨St.wf_push wf _, by simp, fun c hc => St.get_push_ne _ _ (by omega)⟩

section
variable {s t : St} {i m : Nat} {room : Int} {fs : List Fl}

theorem Dk.gr (h : Dk s i m room fs) (g : Gr s t) : Dk t i m room fs := by
  obtain ⟨g1, g2, g3⟩ := g
  refine ⟨g1, by rw [g3 i (h.wf.lt h.ri)]; exact h.ri, by rw [g3 m (h.wf.lt h.mp)]; exact h.mp, fun k f hf => ?_, h.ap, h.nm⟩
  obtain ⟨a1, a2, a3⟩ := h.fl k f hf
  exact ⟨by rw [g3 _ (h.wf.lt a1)]; exact a1, a2.keep fun c hc => g3 c (a2.lt h.wf hc), a3⟩

/-- One file changes. -/
theorem Dk.upd (h : Dk s i m room fs) {k : Nat} {f : Fl} (hk : fs[k]? = some f) {x' : S} {l' : List S} {sure' : Nat} (wf : t.wf) (hsz : s.size ≤ t.size) (hF : ∀ b, b < s.size → b ≠ f.fb → own f.x ≠ some b → t.get b = s.get b)
    (hfb : t.get f.fb = some (.cells true [x', .int .i64 sure'])) (hbs : BS t x' l') (hsure : sure' ≤ l'.length) (hl : l'.length ≤ 50000) (hx : own x' = none ∨ own x' = own f.x ∨ ∃ c, own x' = some c ∧ s.size ≤ c) :
    Dk t i m room (fs.set k { f with x := x', l := l', sure := sure' }) := by
  obtain ⟨a1, a2, a3, a4, a5, a6, a7⟩ := h.fl k f hk
  have hi := h.wf.lt h.ri
  have hm := h.wf.lt h.mp
  obtain ⟨hkl, hfk⟩ := List.getElem?_eq_some_iff.1 hk
  have hents : ents (fs.set k { f with x := x', l := l', sure := sure' }) = ents fs := by
    unfold ents
    rw [List.map_set]
    apply List.ext_getElem?
    intro j
    rw [List.getElem?_set]
    by_cases hj : k = j
    · subst hj
      simp [hkl, hfk]
    · simp [hj]
  have hnew : ∀ c, own x' = some c → own f.x = some c ∨ s.size ≤ c := fun c hc => by
    rcases hx with e | e | ⟨c', e, hc'⟩
    · rw [e] at hc; cases hc
    · exact .inl (e ▸ hc)
    · rw [e] at hc; cases hc; exact .inr hc'
  have hget : ∀ j g, (fs.set k { f with x := x', l := l', sure := sure' })[j]? = some g → (j = k ∧ g = { f with x := x', l := l', sure := sure' }) ∨ (j ≠ k ∧ fs[j]? = some g) := fun j g hg => by
    rw [List.getElem?_set] at hg
    by_cases hj : k = j
    · subst hj
      simp [hkl] at hg
      exact .inl ⟨rfl, hg.symm⟩
    · rw [if_neg hj] at hg
      exact .inr ⟨fun e => hj e.symm, hg⟩
  refine ⟨wf, by rw [hF i hi (Ne.symm a5) (fun e => (a7 i e).1 rfl)]; exact h.ri, by rw [hF m hm (Ne.symm a6) (fun e => (a7 m e).2 rfl), hents]; exact h.mp, fun j g hg => ?_, fun j j' g g' hg hg' => ?_, ?_⟩
  · rcases hget j g hg with ⟨rfl, rfl⟩ | ⟨hj, ho⟩
    · refine ⟨hfb, hbs, hsure, hl, a5, a6, fun c hc => ?_⟩
      rcases hnew c hc with e | e
      · exact a7 c e
      · exact ⟨by omega, by omega⟩
    · obtain ⟨b1, b2, b3⟩ := h.fl j g ho
      have p1 := (h.ap j k g f ho hk).1 hj
      refine ⟨by rw [hF _ (h.wf.lt b1) p1 (fun e => ((h.ap k j f g hk ho).2 _ e).1 rfl)]; exact b1, b2.keep fun c hc => hF c (b2.lt h.wf hc) ((h.ap j k g f ho hk).2 c hc).1 (fun e => ((h.ap k j f g hk ho).2 c e).2 (Ne.symm hj) hc), b3⟩
  · rcases hget j g hg with ⟨rfl, rfl⟩ | ⟨hj, ho⟩
    · rcases hget j' g' hg' with ⟨rfl, rfl⟩ | ⟨hj', ho'⟩
      · refine ⟨fun e => absurd rfl e, fun c hc => ⟨?_, fun e => absurd rfl e⟩⟩
        rcases hnew c hc with e | e
        · exact ((h.ap _ _ f f hk hk).2 c e).1
        · have := h.wf.lt a1
          show c ≠ f.fb
          omega
      · obtain ⟨b1, b2, _⟩ := h.fl j' g' ho'
        refine ⟨fun e => (h.ap _ j' f g' hk ho').1 e, fun c hc => ?_⟩
        rcases hnew c hc with e | e
        · exact (h.ap _ j' f g' hk ho').2 c e
        · have := h.wf.lt b1
          exact ⟨by omega, fun _ e' => by have := b2.lt h.wf e'; omega⟩
    · rcases hget j' g' hg' with ⟨rfl, rfl⟩ | ⟨hj', ho'⟩
      · obtain ⟨b1, b2, _⟩ := h.fl j g ho
        refine ⟨fun e => (h.ap j _ g f ho hk).1 e, fun c hc => ⟨((h.ap j _ g f ho hk).2 c hc).1, fun hne e => ?_⟩⟩
        rcases hnew c e with e' | e'
        · exact ((h.ap j _ g f ho hk).2 c hc).2 hne e'
        · have := b2.lt h.wf hc
          omega
      · exact h.ap j j' g g' ho ho'
  · have : (fs.set k { f with x := x', l := l', sure := sure' }).map (·.nm) = fs.map (·.nm) := by
      rw [List.map_set]
      apply List.ext_getElem?
      intro j
      rw [List.getElem?_set]
      by_cases hj : k = j
      · subst hj
        simp [hkl, hfk]
      · simp [hj]
    rw [this]
    exact h.nm

theorem find_at : ∀ (fs : List Fl) (k k0 : Nat) (f : Fl), (fs.map (·.nm)).Nodup → fs[k]? = some f → aFind (.str f.nm) (ents fs) k0 = some (some (k0 + k, V.s (.ptr f.fb 0))) := by
  intro fs
  induction fs with
  | nil => intro k k0 f _ h; simp at h
  | cons a r ih =>
    intro k k0 f hn hk
    rw [List.map_cons, List.nodup_cons] at hn
    cases k with
    | zero =>
      simp at hk
      subst hk
      simp [ents, aFind, keyEq]
    | succ k =>
      simp at hk
      have hne : f.nm ≠ a.nm := fun e => hn.1 (by rw [← e]; exact List.mem_map_of_mem (f := Fl.nm) (List.mem_of_getElem? hk))
      have := ih k (k0 + 1) f hn.2 hk
      have e1 : aFind (.str f.nm) (ents (a :: r)) k0 = aFind (.str f.nm) (ents r) (k0 + 1) := by simp [ents, aFind, keyEq, hne]
      rw [e1, this, show k0 + 1 + k = k0 + (k + 1) by omega]

theorem find_no : ∀ (fs : List Fl) (k0 : Nat) (n : List UInt8), (∀ f ∈ fs, f.nm ≠ n) → aFind (.str n) (ents fs) k0 = some none := by
  intro fs
  induction fs with
  | nil => intro k0 n _; rfl
  | cons a r ih =>
    intro k0 n h
    have hne : n ≠ a.nm := fun e => h a List.mem_cons_self e.symm
    have := ih (k0 + 1) n fun f hf => h f (List.mem_cons_of_mem _ hf)
    simpa [ents, aFind, keyEq, hne] using this

theorem Dk.ld0 (h : Dk s i m room fs) : aLoad1 (Z (.ptr i 0)) s.get = some (I .i64 room) := aLoad1_of h.ri rfl
theorem Dk.ld1 (h : Dk s i m room fs) : aLoad1 (Z (.ptr i 1)) s.get = some (Z (.map m)) := aLoad1_of h.ri rfl

theorem Dk.look (h : Dk s i m room fs) {k : Nat} {f : Fl} (hk : fs[k]? = some f) : Go.Abs.F.look .s false (.s (.nilp)) (Z (.map m)) (Z (.str f.nm)) s.get = some (Z (.ptr f.fb 0)) := by
  simp [Go.Abs.F.look, isKey, aLookup, h.mp, find_at fs k 0 f h.nm hk]

theorem Dk.lookNo (h : Dk s i m room fs) {n : List UInt8} (hn : ∀ f ∈ fs, f.nm ≠ n) : Go.Abs.F.look .s false (.s (.nilp)) (Z (.map m)) (Z (.str n)) s.get = some (Z .nilp) := by
  simp [Go.Abs.F.look, isKey, aLookup, h.mp, find_no fs 0 n hn]

/-- A name that may be. -/
def May (n : List UInt8) : Prop := ∀ s, prim 35 [Z (.str n)] s = some (B true, s)

theorem find_run (d : Nat) (h : Dk s i m room fs) {k : Nat} {f : Fl} (hk : fs[k]? = some f) (hm : May f.nm) : R (d + 2) 23 [Z (.ptr i 0), Z (.str f.nm)] s = some (.tup [.s (.ptr f.fb 0), .s (.int .i64 0)], s) := by
  have e := runQ_prim (P := Tryd.prog) (N := 512) (d := d) (hm s)
  have l1 := h.ld1
  have lk := h.look hk
  rw [f23_run]
  unfold f23
  have e' : R (d + 1) 35 [Z (.str f.nm)] s = some (B true, s) := e
  generalize R (d + 1) = r at e' ⊢
  simp [e', l1, lk, retT, allV]

theorem find_none (d : Nat) (h : Dk s i m room fs) {n : List UInt8} (hn : ∀ f ∈ fs, f.nm ≠ n) (hm : May n) : R (d + 2) 23 [Z (.ptr i 0), Z (.str n)] s = some (.tup [.s .nilp, .s (.int .i64 9)], s) := by
  have e := runQ_prim (P := Tryd.prog) (N := 512) (d := d) (hm s)
  have l1 := h.ld1
  have lk := h.lookNo hn
  rw [f23_run]
  unfold f23
  have e' : R (d + 1) 35 [Z (.str n)] s = some (B true, s) := e
  generalize R (d + 1) = r at e' ⊢
  simp [e', l1, lk, retT, allV]

theorem keysOf_ents : ∀ (fs : List Fl), (fs.map (·.nm)).Nodup → (∀ f ∈ fs, f.nm.length ≤ 1000) → keysOf (ents fs) = some (fs.map (·.nm)) := by
  intro fs
  induction fs with
  | nil => intro _ _; rfl
  | cons a r ih =>
    intro hn hl
    rw [List.map_cons, List.nodup_cons] at hn
    have h1 := ih hn.2 fun f hf => hl f (List.mem_cons_of_mem _ hf)
    have h2 : Nat.ble a.nm.length 1000 = true := Nat.ble_eq_true_of_le (hl a List.mem_cons_self)
    have h3 : (r.map (·.nm)).contains a.nm = false := by simpa using hn.1
    show keysOf ((S.str a.nm, V.s (.ptr a.fb 0)) :: ents r) = _
    unfold keysOf
    simp only [h1, h2, h3]
    rfl

theorem names_run (d : Nat) (h : Dk s i m room fs) (hl : ∀ f ∈ fs, f.nm.length ≤ 1000) (hf : fs.length ≤ 1000) :
    (fs = [] ∧ R (d + 1) 33 [Z (.ptr i 0)] s = some (Z .nils, s)) ∨ (fs ≠ [] ∧ R (d + 1) 33 [Z (.ptr i 0)] s = some (Z (.sl s.size 0 fs.length (.grown 1)), s.push (.cells true ((sorted (fs.map (·.nm))).map S.str)))) := by
  have hk := keysOf_ents fs h.nm hl
  have hb : Nat.ble (ents fs).length 1000 = true := Nat.ble_eq_true_of_le (by simpa [ents] using hf)
  have hp : ∀ r, namesP 33 [Z (.ptr i 0)] s = some r → R (d + 1) 33 [Z (.ptr i 0)] s = some r := fun r hr => runQ_prim ((orP_right rfl).trans (orP_left hr))
  cases fs with
  | nil =>
    refine .inl ⟨rfl, hp _ ?_⟩
    have h1 := h.ri
    have h2 := h.mp
    unfold namesP
    simp only [h1, List.getElem?_cons_succ, List.getElem?_cons_zero, h2, hb, hk, List.map_nil, Nat.zero_add]
  | cons a r =>
    refine .inr ⟨by simp, hp _ ?_⟩
    have h1 := h.ri
    have h2 := h.mp
    unfold namesP
    simp only [h1, List.getElem?_cons_succ, List.getElem?_cons_zero, h2, hb, hk, List.map_cons, Nat.zero_add]
    simp
end
end Go.Proofs.YtgecidicpdobfaaDoor
