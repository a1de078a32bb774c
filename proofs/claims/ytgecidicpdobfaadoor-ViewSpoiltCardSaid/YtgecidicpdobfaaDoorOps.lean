/-
  What the operations of a disk do, in any store: the room in use, appending, syncing, cutting, reading, a crash of one file. No conditions but those named in each line.
-/
import Derived.Test.YtgecidicpdobfaaDoorDisk
import Derived.Test.YtgecidicpdobfaaDoorNames
namespace Go.Proofs.YtgecidicpdobfaaDoor
open Go Go.Abs Go.Abs.F
set_option linter.unusedVariables false

def tot (fs : List Fl) : Nat := (fs.map (·.l.length)).sum

def lenOf : List Fl → List UInt8 → Nat
  | [], _ => 0
  | f :: r, n => if f.nm = n then f.l.length else lenOf r n

theorem lenOf_at : ∀ (fs : List Fl) (k : Nat) (f : Fl), (fs.map (·.nm)).Nodup → fs[k]? = some f → lenOf fs f.nm = f.l.length := by
  intro fs
  induction fs with
  | nil => intro k f _ h; simp at h
  | cons a r ih =>
    intro k f hn hk
    rw [List.map_cons, List.nodup_cons] at hn
    cases k with
    | zero => simp at hk; subst hk; simp [lenOf]
    | succ k =>
      simp at hk
      have hne : a.nm ≠ f.nm := fun e => hn.1 (by rw [e]; exact List.mem_map_of_mem (f := Fl.nm) (List.mem_of_getElem? hk))
      simp only [lenOf, if_neg hne]
      exact ih k f hn.2 hk

theorem sum_perm {l r : List Nat} (h : l.Perm r) : l.sum = r.sum := by
  induction h with
  | nil => rfl
  | cons a _ ih => simp [ih]
  | swap a b l => simp; omega
  | trans _ _ ih1 ih2 => exact ih1.trans ih2

theorem tot_sorted {fs : List Fl} (hn : (fs.map (·.nm)).Nodup) : ((sorted (fs.map (·.nm))).map (lenOf fs)).sum = tot fs := by
  rw [sum_perm ((sorted_perm' _).map (lenOf fs)), List.map_map]
  unfold tot
  congr 1
  apply List.map_congr_left
  intro f hf
  obtain ⟨k, hk⟩ := List.getElem?_of_mem hf
  exact lenOf_at fs k f hn hk

section
variable {s t : St} {i m : Nat} {room : Int} {fs : List Fl}

theorem tot_le : ∀ (fs : List Fl), (∀ f ∈ fs, f.l.length ≤ 50000) → tot fs ≤ 50000 * fs.length := by
  intro fs
  induction fs with
  | nil => intro _; simp [tot]
  | cons a r ih =>
    intro h
    have h1 := ih fun f hf => h f (List.mem_cons_of_mem _ hf)
    have h2 := h a List.mem_cons_self
    simp only [tot, List.map_cons, List.sum_cons, List.length_cons] at h1 ⊢
    omega

theorem part_le {ks : List (List UInt8)} {fs : List Fl} (j : Nat) : ((ks.take j).map (lenOf fs)).sum ≤ (ks.map (lenOf fs)).sum := by
  have : ks.map (lenOf fs) = (ks.take j).map (lenOf fs) ++ (ks.drop j).map (lenOf fs) := by rw [← List.map_append, List.take_append_drop]
  rw [this, List.sum_append]
  omega

theorem used_run (d : Nat) (h : Dk s i m room fs) (hl : ∀ f ∈ fs, f.nm.length ≤ 1000) (hf : fs.length ≤ 500) : ∃ t, R (d + 2) 34 [Z (.ptr i 0)] s = some (I .i64 (tot fs), t) ∧ Gr s t := by
  rw [f34_run]
  unfold f34
  rcases names_run d h hl (by omega) with ⟨rfl, e⟩ | ⟨hne, e⟩
  · refine ⟨s, ?_, Gr.refl h.wf⟩
    generalize R (d + 1) = r at e ⊢
    have lp : loops (f34_l1 r 512) 512 [Z (.ptr i 0), I .i64 0, Z .nils, I .i64 0, I .i64 0] s = some (.exit 0 [I .i64 0], s) := by
      rw [show (512 : Nat) = 511 + 1 from rfl, loops]
      have : f34_l1 r 512 [Z (.ptr i 0), I .i64 0, Z .nils, I .i64 0, I .i64 0] s = some (.exit 0 [I .i64 0], s) := by
        unfold f34_l1
        simp
      rw [this]
    simp [e, lp, tot]
  · obtain ⟨ks, hks⟩ : ∃ ks, ks = sorted (fs.map (·.nm)) := ⟨_, rfl⟩
    rw [← hks] at e
    obtain ⟨t, ht⟩ : ∃ t, t = s.push (.cells true (ks.map S.str)) := ⟨_, rfl⟩
    rw [← ht] at e
    have g : Gr s t := by rw [ht]; exact Gr.push h.wf _
    have hg := h.gr g
    have hkl : ks.length = fs.length := by rw [hks, (sorted_perm' _).length_eq, List.length_map]
    have hts := tot_sorted h.nm
    rw [← hks] at hts
    have htl := tot_le fs fun f hf => by
      obtain ⟨k, hk⟩ := List.getElem?_of_mem hf
      exact (h.fl k f hk).2.2.2.1
    have hblk : t.get s.size = some (.cells true (ks.map S.str)) := by rw [ht]; exact St.get_push_same _ _
    refine ⟨t, ?_, g⟩
    generalize R (d + 1) = r at e ⊢
    obtain ⟨j, τ, hlp, hj, hτ⟩ := loops_inv (f := f34_l1 r 512) (fun k v u => ∃ j : Nat, k + j = fs.length ∧ v = [Z (.ptr i 0), I .i64 (((ks.take j).map (lenOf fs)).sum : Nat), Z (.sl s.size 0 fs.length (.grown 1)), I .i64 fs.length, I .i64 j] ∧ u = t) (fun j u => j = .exit 0 [I .i64 (tot fs)] ∧ u = t) (by
      rintro k v u ⟨j, hk, rfl, rfl⟩
      by_cases hj : j < fs.length
      · left
        obtain ⟨nm, hnm⟩ : ∃ nm, ks[j]? = some nm := ⟨_, List.getElem?_eq_getElem (by omega)⟩
        have hmem : nm ∈ fs.map (·.nm) := (sorted_perm' _).mem_iff.1 (by rw [← hks]; exact List.mem_of_getElem? hnm)
        obtain ⟨f, hfm, rfl⟩ := List.mem_map.1 hmem
        obtain ⟨q, hq⟩ := List.getElem?_of_mem hfm
        have ix : aIndexSl 1 (Z (.sl s.size 0 fs.length (.grown 1))) (I .i64 j) = some (Z (.ptr s.size j)) := by rw [aIndexSl_int rfl hj]; simp
        have ld : aLoad1 (Z (.ptr s.size j)) u.get = some (Z (.str f.nm)) := aLoad1_of hblk (by rw [List.getElem?_map, hnm]; rfl)
        have lk := hg.look hq
        obtain ⟨a1, a2, _⟩ := hg.fl q f hq
        have lf : aLoad1 (Z (.ptr f.fb 0)) u.get = some (Z f.x) := aLoad1_of a1 rfl
        have ll := a2.rd.len
        have hpart := part_le (ks := ks) (fs := fs) (j + 1)
        have hsum : ((ks.take (j + 1)).map (lenOf fs)).sum = ((ks.take j).map (lenOf fs)).sum + f.l.length := by
          rw [List.take_add_one, hnm, List.map_append, List.sum_append]
          simp [lenOf_at fs q f h.nm hq]
        have w1 : IntKind.i64.wrap ((((ks.take j).map (lenOf fs)).sum : Nat) + f.l.length : Int) = (((ks.take (j + 1)).map (lenOf fs)).sum : Nat) := by
          rw [wrap_in _ (by omega) (by omega), hsum]
          omega
        have w2 : IntKind.i64.wrap ((j : Int) + 1) = (j : Int) + 1 := wrap_in _ (by omega) (by omega)
        have hlt : (j : Int) < (fs.length : Int) := by omega
        have l1 := hg.ld1
        refine ⟨[Z (.ptr i 0), I .i64 (((ks.take (j + 1)).map (lenOf fs)).sum : Nat), Z (.sl s.size 0 fs.length (.grown 1)), I .i64 fs.length, I .i64 ((j : Int) + 1)], u, k - 1, ?_, by omega, j + 1, by omega, by simp, rfl⟩
        generalize ((ks.take j).map (lenOf fs)).sum = A at w1 ⊢
        generalize ((ks.take (j + 1)).map (lenOf fs)).sum = A' at w1 ⊢
        unfold f34_l1
        simp [hlt, ix, ld, l1, lk, lf, ll, w1, w2]
      · right
        have hlt : ¬ (j : Int) < (fs.length : Int) := by omega
        have hj' : j = fs.length := by omega
        have htk : ks.take j = ks := List.take_of_length_le (by omega)
        refine ⟨_, u, ?_, (fun v hv => by cases hv), rfl, rfl⟩
        rw [htk, hts]
        unfold f34_l1
        simp [hlt]) 512 fs.length [Z (.ptr i 0), I .i64 0, Z (.sl s.size 0 fs.length (.grown 1)), I .i64 fs.length, I .i64 0] t ⟨0, by omega, by simp, rfl⟩ (by omega)
    subst hj; subst hτ
    simp [e, hlp]

/-- What is said of a disk's names. -/
def Nice (fs : List Fl) : Prop := (∀ f ∈ fs, f.nm.length ≤ 1000) ∧ fs.length ≤ 100

/-- Appending to a file that is there. -/
theorem append_run (d : Nat) (h : Dk s i m room fs) (hn : Nice fs) {k : Nat} {f : Fl} (hk : fs[k]? = some f) (hm : May f.nm) {y : S} {xs : List S} (hy : Rd s y xs) (hyb : ∀ c, own y = some c → c < s.size)
    (hroom : (tot fs : Int) + xs.length ≤ room) (hlen : xs.length ≤ 40000) (hfl : f.l.length + xs.length ≤ 50000) :
    ∃ x' t, R (d + 3) 19 [Z (.ptr i 0), Z (.str f.nm), Z y] s = some (I .i64 0, t) ∧ Dk t i m room (fs.set k { f with x := x', l := f.l ++ xs, sure := f.sure }) ∧ s.size ≤ t.size ∧
      (∀ b, b < s.size → b ≠ f.fb → own f.x ≠ some b → t.get b = s.get b) ∧ (own x' = none ∨ own x' = own f.x ∨ ∃ c, own x' = some c ∧ s.size ≤ c) := by
  rw [f19_run]
  unfold f19
  have e1 := find_run d h hk hm
  obtain ⟨s1, e2, g⟩ := used_run d h hn.1 (by have := hn.2; omega)
  have h1 := h.gr g
  obtain ⟨a1, a2, a3, a4, a5, a6, a7⟩ := h1.fl k f hk
  have hy1 : Rd s1 y xs := hy.keep fun c hc => g.2.2 c (hyb c hc)
  obtain ⟨x', t, ap, q1, q2, q3, q4, q5⟩ := bs_append a2 h1.wf hy1 (by omega)
  have l0 := h.ld0
  have l0' := h1.ld0
  have lf : aLoad1 (Z (.ptr f.fb 0)) s1.get = some (Z f.x) := aLoad1_of a1 rfl
  have htl := tot_le fs fun f hf => by
    obtain ⟨k, hk⟩ := List.getElem?_of_mem hf
    exact (h.fl k f hk).2.2.2.1
  have hfs := hn.2
  have w1 : IntKind.i64.wrap ((tot fs : Int) + xs.length) = (tot fs : Int) + xs.length := wrap_in _ (by omega) (by omega)
  have hr : ¬ room < (tot fs : Int) + xs.length := by omega
  have hll := hy.len
  have hft : t.get f.fb = some (.cells true [f.x, .int .i64 f.sure]) := by
    rw [q4 f.fb (h1.wf.lt a1) (fun e => ((h1.ap k k f f hk hk).2 _ e).1 rfl)]
    exact a1
  have st : aStore 1 (Z (.ptr f.fb 0)) (Z x') t = some (tt, t.set f.fb (.cells true [x', .int .i64 f.sure])) := aStore1_of hft (by simp)
  have hs1 := g.2.1
  refine ⟨x', t.set f.fb (.cells true [x', .int .i64 f.sure]), ?_, ?_, by simp; omega, fun b hb hb1 hb2 => ?_, ?_⟩
  · generalize R (d + 2) = r at e1 e2 ⊢
    simp [e1, aExtract, e2, hll, l0, l0', w1, hr, lf, ap, st, wq]
  · refine h1.upd hk (St.wf_set q1 (by have := h1.wf.lt a1; omega) _) (by simpa using q2) (fun b hb hb1 hb2 => ?_) (St.get_set_same _ _ _) (q3.keep fun c hc => ?_) (by simp; omega) (by simp; omega) q5
    · rw [St.get_set_ne _ _ hb1]
      exact q4 b hb hb2
    · refine St.get_set_ne _ _ fun e => ?_
      have hlt := h1.wf.lt a1
      rcases q5 with e' | e' | ⟨c', e', hc'⟩
      · rw [e'] at hc; cases hc
      · rw [e'] at hc
        exact ((h1.ap k k f f hk hk).2 c hc).1 e
      · rw [e'] at hc
        cases hc
        omega
  · rw [St.get_set_ne _ _ hb1, q4 b (by omega) hb2]
    exact g.2.2 b hb
  · rcases q5 with e | e | ⟨c, e, hc⟩
    · exact .inl e
    · exact .inr (.inl e)
    · exact .inr (.inr ⟨c, e, by omega⟩)

theorem ents_append (fs : List Fl) (f : Fl) : ents (fs ++ [f]) = ents fs ++ [(S.str f.nm, V.s (.ptr f.fb 0))] := by simp [ents]

/-- One file more. -/
theorem Dk.more (h : Dk s i m room fs) {f : Fl} (hno : ∀ g ∈ fs, g.nm ≠ f.nm) (wf : t.wf) (hsz : s.size ≤ t.size) (hF : ∀ b, b < s.size → b ≠ m → t.get b = s.get b) (hm : t.get m = some (.map (ents (fs ++ [f]))))
    (hfb : t.get f.fb = some (.cells true [f.x, .int .i64 f.sure])) (hb : s.size ≤ f.fb) (hbs : BS t f.x f.l) (hsure : f.sure ≤ f.l.length) (hl : f.l.length ≤ 50000) (hx : ∀ c, own f.x = some c → s.size ≤ c ∧ c ≠ f.fb) :
    Dk t i m room (fs ++ [f]) := by
  have hi := h.wf.lt h.ri
  have hml := h.wf.lt h.mp
  have hmi : m ≠ i := fun e => by
    have h1 := h.mp
    rw [e, h.ri] at h1
    cases h1
  have hget : ∀ j g, (fs ++ [f])[j]? = some g → (j < fs.length ∧ fs[j]? = some g) ∨ (j = fs.length ∧ g = f) := fun j g hg => by
    by_cases hj : j < fs.length
    · rw [List.getElem?_append_left hj] at hg
      exact .inl ⟨hj, hg⟩
    · rw [List.getElem?_append_right (by omega)] at hg
      have : j - fs.length = 0 := by
        have := (List.getElem?_eq_some_iff.1 hg).1
        simp at this
        omega
      rw [this] at hg
      simp at hg
      exact .inr ⟨by omega, hg.symm⟩
  refine ⟨wf, by rw [hF i hi (Ne.symm hmi)]; exact h.ri, hm, fun j g hg => ?_, fun j j' g g' hg hg' => ?_, ?_⟩
  · rcases hget j g hg with ⟨hj, ho⟩ | ⟨rfl, rfl⟩
    · obtain ⟨b1, b2, b3, b4, b5, b6, b7⟩ := h.fl j g ho
      exact ⟨by rw [hF _ (h.wf.lt b1) b6]; exact b1, b2.keep fun c hc => hF c (b2.lt h.wf hc) (b7 c hc).2, b3, b4, b5, b6, b7⟩
    · exact ⟨hfb, hbs, hsure, hl, by omega, by omega, fun c hc => by have := (hx c hc).1; exact ⟨by omega, by omega⟩⟩
  · rcases hget j g hg with ⟨hj, ho⟩ | ⟨rfl, rfl⟩
    · obtain ⟨b1, b2, _⟩ := h.fl j g ho
      rcases hget j' g' hg' with ⟨hj', ho'⟩ | ⟨rfl, rfl⟩
      · exact h.ap j j' g g' ho ho'
      · have := h.wf.lt b1
        exact ⟨fun _ => by omega, fun c hc => by
          have := b2.lt h.wf hc
          exact ⟨by omega, fun _ e => by have := (hx c e).1; omega⟩⟩
    · rcases hget j' g' hg' with ⟨hj', ho'⟩ | ⟨rfl, rfl⟩
      · obtain ⟨b1, b2, _⟩ := h.fl j' g' ho'
        have := h.wf.lt b1
        exact ⟨fun _ => by omega, fun c hc => by
          have := (hx c hc).1
          exact ⟨by omega, fun _ e => by have := b2.lt h.wf e; omega⟩⟩
      · exact ⟨fun e => absurd rfl e, fun c hc => ⟨(hx c hc).2, fun e => absurd rfl e⟩⟩
  · rw [List.map_append, List.nodup_append]
    refine ⟨h.nm, by simp, fun a ha b hb' => ?_⟩
    obtain ⟨g, hg, rfl⟩ := List.mem_map.1 ha
    simp at hb'
    subst hb'
    exact hno g hg

/-- Appending to a file that is not there. -/
theorem append_new (d : Nat) (h : Dk s i m room fs) (hn : Nice fs) {nm : List UInt8} (hno : ∀ g ∈ fs, g.nm ≠ nm) (hm : May nm) {y : S} {xs : List S} (hy : Rd s y xs) (hyb : ∀ c, own y = some c → c < s.size)
    (hym : own y ≠ some m) (hroom : (tot fs : Int) + xs.length ≤ room) (hlen : xs.length ≤ 40000) :
    ∃ x' fb t, R (d + 3) 19 [Z (.ptr i 0), Z (.str nm), Z y] s = some (I .i64 0, t) ∧ Dk t i m room (fs ++ [⟨nm, fb, x', xs, 0⟩]) ∧ s.size ≤ t.size ∧ (∀ b, b < s.size → b ≠ m → t.get b = s.get b) ∧ s.size ≤ fb ∧ (∀ c, own x' = some c → s.size ≤ c) := by
  rw [f19_run]
  unfold f19
  have e1 := find_none d h hno hm
  obtain ⟨s1, e2, g⟩ := used_run d h hn.1 (by have := hn.2; omega)
  have h1 := h.gr g
  have hfs := hn.2
  have l0 := h.ld0
  have l0' := h1.ld0
  have l1 := h.ld1
  have hll := hy.len
  have htl := tot_le fs fun f hf => by
    obtain ⟨k, hk⟩ := List.getElem?_of_mem hf
    exact (h.fl k f hk).2.2.2.1
  have w1 : IntKind.i64.wrap ((tot fs : Int) + xs.length) = (tot fs : Int) + xs.length := wrap_in _ (by omega) (by omega)
  have hr : ¬ room < (tot fs : Int) + xs.length := by omega
  have hlm : aLenMap (Z (.map m)) s.get = some (I .i64 fs.length) := by simp [aLenMap, h.mp, ents]
  have hfl : ¬ (fs.length : Int) = 200 := by omega
  -- the file's block
  obtain ⟨s2, hs2⟩ : ∃ s2, s2 = s1.push (.cells true [.nils, .int .i64 0]) := ⟨_, rfl⟩
  have g2 : Gr s1 s2 := by rw [hs2]; exact Gr.push h1.wf _
  have hfb2 : s2.get s1.size = some (.cells true [.nils, .int .i64 0]) := by rw [hs2]; exact St.get_push_same _ _
  have h2 := h1.gr g2
  have l2 := h2.ld1
  have nw : aNew s1 (nBox (.v (.agg [.nils, .int .i64 0]))) = some (Z (.ptr s1.size 0), s2) := by simp [aNew, nBox, V.cells, hs2]
  obtain ⟨s3, hs3⟩ : ∃ s3, s3 = s2.set m (.map (ents fs ++ [(S.str nm, V.s (.ptr s1.size 0))])) := ⟨_, rfl⟩
  have ms : mset .s (Z (.map m)) (Z (.str nm)) (Z (.ptr s1.size 0)) s2 = some (tt, s3) := by
    simp [mset, isKey, aMapSet, h2.mp, find_no fs 0 nm hno, hs3]
  have hml := h2.wf.lt h2.mp
  have f3 : s3.wf := by rw [hs3]; exact St.wf_set h2.wf hml _
  have z3 : s3.size = s2.size := by rw [hs3]; rfl
  have k3 : ∀ b, b ≠ m → s3.get b = s2.get b := fun b hb => by rw [hs3, St.get_set_ne _ _ hb]
  have hm1 := h.wf.lt h.mp
  have hs1 := g.2.1
  have hs12 : s2.size = s1.size + 1 := by rw [hs2]; rfl
  have hfb3 : s3.get s1.size = some (.cells true [.nils, .int .i64 0]) := by rw [k3 _ (by omega)]; exact hfb2
  have lf : aLoad1 (Z (.ptr s1.size 0)) s3.get = some (Z .nils) := aLoad1_of hfb3 rfl
  have hy3 : Rd s3 y xs := hy.keep fun c hc => by
    have := hyb c hc
    rw [k3 c (fun e => hym (by rw [← e]; exact hc)), g2.2.2 c (by omega), g.2.2 c this]
  obtain ⟨x', t, ap, q1, q2, q3, q4, q5⟩ := bs_append (l := []) (.inl ⟨rfl, rfl⟩ : BS s3 .nils []) f3 hy3 (by simp; omega)
  have hft : t.get s1.size = some (.cells true [.nils, .int .i64 0]) := by rw [q4 s1.size (by omega) (by simp [own])]; exact hfb3
  have st : aStore 1 (Z (.ptr s1.size 0)) (Z x') t = some (tt, t.set s1.size (.cells true [x', .int .i64 0])) := aStore1_of hft (by simp)
  have hown : ∀ c, own x' = some c → s3.size ≤ c := fun c hc => by
    rcases q5 with e | e | ⟨c', e, hc'⟩
    · rw [e] at hc; cases hc
    · rw [e] at hc; cases hc
    · rw [e] at hc; cases hc; exact hc'
  refine ⟨x', s1.size, t.set s1.size (.cells true [x', .int .i64 0]), ?_, ?_, by simp; omega, fun b hb hb1 => ?_, hs1, fun c hc => by have := hown c hc; omega⟩
  · generalize R (d + 2) = r at e1 e2 ⊢
    have ag : asAggT (aFill [.nils, .int .i64 0] []) = some (.v (.agg [.nils, .int .i64 0])) := rfl
    simp [e1, aExtract, e2, hll, l0, l0', l1, hlm, hfl, w1, hr, ag, nw, l2, ms, lf, ap, st, wq]
  · have ht : ∀ b, b < s.size → b ≠ m → (t.set s1.size (.cells true [x', .int .i64 0])).get b = s.get b := fun b hb hb1 => by
      rw [St.get_set_ne _ _ (by omega), q4 b (by omega) (by simp [own]), k3 b hb1, g2.2.2 b (by omega), g.2.2 b hb]
    refine h.more (f := ⟨nm, s1.size, x', xs, 0⟩) hno (St.wf_set q1 (by omega) _) (by simp; omega) ht ?_ (St.get_set_same _ _ _) hs1 (q3.keep fun c hc => St.get_set_ne _ _ (by have := hown c hc; omega)) (by simp) (by simp; omega) fun c hc => by have := hown c hc; exact ⟨by omega, by show c ≠ s1.size; omega⟩
    rw [St.get_set_ne _ _ (by omega), q4 m (by omega) (by simp [own]), ents_append, hs3, St.get_set_same]
  · rw [St.get_set_ne _ _ (by omega), q4 b (by omega) (by simp [own]), k3 b hb1, g2.2.2 b (by omega), g.2.2 b hb]

/-- What is beyond the room is refused. -/
theorem append_full (d : Nat) (h : Dk s i m room fs) (hn : Nice fs) {nm : List UInt8} (hm : May nm) {y : S} {xs : List S} (hy : Rd s y xs) (hyb : ∀ c, own y = some c → c < s.size) (hlen : xs.length ≤ 40000) (hroom : room < (tot fs : Int) + xs.length)
    (hk : (∃ (k : Nat) (f : Fl), fs[k]? = some f ∧ f.nm = nm) ∨ ∀ g ∈ fs, g.nm ≠ nm) : ∃ t, R (d + 3) 19 [Z (.ptr i 0), Z (.str nm), Z y] s = some (I .i64 8, t) ∧ Gr s t := by
  rw [f19_run]
  unfold f19
  obtain ⟨s1, e2, g⟩ := used_run d h hn.1 (by have := hn.2; omega)
  have h1 := h.gr g
  have hfs := hn.2
  have l0' := h1.ld0
  have l0 := h.ld0
  have l1 := h.ld1
  have hll := hy.len
  have htl := tot_le fs fun f hf => by
    obtain ⟨k, hk⟩ := List.getElem?_of_mem hf
    exact (h.fl k f hk).2.2.2.1
  have w1 : IntKind.i64.wrap ((tot fs : Int) + xs.length) = (tot fs : Int) + xs.length := wrap_in _ (by omega) (by omega)
  have hlm : aLenMap (Z (.map m)) s.get = some (I .i64 fs.length) := by simp [aLenMap, h.mp, ents]
  have hfl : ¬ (fs.length : Int) = 200 := by omega
  refine ⟨s1, ?_, g⟩
  rcases hk with ⟨k, f, hk, rfl⟩ | hno
  · have e1 := find_run d h hk hm
    generalize R (d + 2) = r at e1 e2 ⊢
    simp [e1, aExtract, e2, hll, l0', l0, w1, hroom, wq]
  · have e1 := find_none d h hno hm
    generalize R (d + 2) = r at e1 e2 ⊢
    simp [e1, aExtract, e2, hll, l0', l0, l1, hlm, hfl, w1, hroom, wq]

theorem sync_run (d : Nat) (h : Dk s i m room fs) {k : Nat} {f : Fl} (hk : fs[k]? = some f) (hm : May f.nm) :
    ∃ t, R (d + 3) 21 [Z (.ptr i 0), Z (.str f.nm)] s = some (I .i64 0, t) ∧ Dk t i m room (fs.set k { f with x := f.x, l := f.l, sure := f.l.length }) ∧ s.size ≤ t.size ∧ ∀ b, b ≠ f.fb → t.get b = s.get b := by
  rw [f21_run]
  unfold f21
  have e1 := find_run d h hk hm
  obtain ⟨a1, a2, a3, a4, a5, a6, a7⟩ := h.fl k f hk
  have lf : aLoad1 (Z (.ptr f.fb 0)) s.get = some (Z f.x) := aLoad1_of a1 rfl
  have ll := a2.rd.len
  have st : aStore 1 (Z (.ptr f.fb 1)) (I .i64 f.l.length) s = some (tt, s.set f.fb (.cells true [f.x, .int .i64 f.l.length])) := aStore1_of a1 (by simp)
  have hfl := h.wf.lt a1
  refine ⟨s.set f.fb (.cells true [f.x, .int .i64 f.l.length]), ?_, ?_, by simp, fun b hb => St.get_set_ne _ _ hb⟩
  · generalize R (d + 2) = r at e1 ⊢
    simp [e1, aExtract, lf, ll, st]
  · refine h.upd hk (St.wf_set h.wf hfl _) (by simp) (fun b _ hb _ => St.get_set_ne _ _ hb) (St.get_set_same _ _ _) (a2.keep fun c hc => St.get_set_ne _ _ ((h.ap k k f f hk hk).2 c hc).1) (Nat.le_refl _) a4 (.inr (.inl rfl))

theorem cut_run (d : Nat) (h : Dk s i m room fs) {k : Nat} {f : Fl} (hk : fs[k]? = some f) (hm : May f.nm) {n : Nat} (hn : n ≤ f.l.length) :
    ∃ x' t, R (d + 3) 20 [Z (.ptr i 0), Z (.str f.nm), I .i64 n] s = some (I .i64 0, t) ∧ Dk t i m room (fs.set k { f with x := x', l := f.l.take n, sure := min f.sure n }) ∧ s.size ≤ t.size ∧ (∀ b, b ≠ f.fb → t.get b = s.get b) ∧ (own x' = none ∨ own x' = own f.x) := by
  rw [f20_run]
  unfold f20
  have e1 := find_run d h hk hm
  obtain ⟨a1, a2, a3, a4, a5, a6, a7⟩ := h.fl k f hk
  obtain ⟨x', pc, b1, b2⟩ := bs_cut a2 hn
  have lf : aLoad1 (Z (.ptr f.fb 0)) s.get = some (Z f.x) := aLoad1_of a1 rfl
  have lf1 : aLoad1 (Z (.ptr f.fb 1)) s.get = some (I .i64 f.sure) := aLoad1_of a1 rfl
  have ll := a2.rd.len
  have hfl := h.wf.lt a1
  have c0 : ¬ (n : Int) < 0 := by omega
  have c1 : ¬ (f.l.length : Int) < (n : Int) := by omega
  have st : aStore 1 (Z (.ptr f.fb 0)) (Z x') s = some (tt, s.set f.fb (.cells true [x', .int .i64 f.sure])) := aStore1_of a1 (by simp)
  have st2 : aStore 1 (Z (.ptr f.fb 1)) (I .i64 (min (f.sure : Int) n)) (s.set f.fb (.cells true [x', .int .i64 f.sure])) = some (tt, (s.set f.fb (.cells true [x', .int .i64 f.sure])).set f.fb (.cells true [x', .int .i64 (min (f.sure : Int) n)])) := aStore1_of (St.get_set_same _ _ _) (by simp)
  have hF : ∀ b, b ≠ f.fb → ((s.set f.fb (.cells true [x', .int .i64 f.sure])).set f.fb (.cells true [x', .int .i64 (min (f.sure : Int) n)])).get b = s.get b := fun b hb => by rw [St.get_set_ne _ _ hb, St.get_set_ne _ _ hb]
  have hmin : (min (f.sure : Int) n) = ((min f.sure n : Nat) : Int) := by omega
  refine ⟨x', _, ?_, ?_, by simp, hF, b2⟩
  · generalize R (d + 2) = r at e1 ⊢
    simp [e1, aExtract, lf, lf1, ll, c0, c1, pc, st, st2]
  · refine h.upd hk (St.wf_set (St.wf_set h.wf hfl _) hfl _) (by simp) (fun b _ hb _ => hF b hb) (by rw [St.get_set_same, hmin]) (b1.keep fun c hc => hF c ?_) (by rw [List.length_take]; omega) (by rw [List.length_take]; omega) (by rcases b2 with e | e; exact .inl e; exact .inr (.inl e))
    rcases b2 with e | e
    · rw [e] at hc; cases hc
    · rw [e] at hc
      exact ((h.ap k k f f hk hk).2 c hc).1
end
end Go.Proofs.YtgecidicpdobfaaDoor
