/-
  Several texts in one: what functions that the law reaches compute. No conditions but those named in each line.
-/
import Derived.Test.YtbohejffelipoaaGreatDoorFnsC
import Derived.Test.YtbohejffelipoaaGreatDoorFnsA
import Derived.Shelf.Strings.OnBuilder
import Derived.Shelf.Strings.Search3
import Derived.Shelf.Strings.Count
import Derived.Test.YtbohejffelipoaaGreatDoorProg
import Derived.Shelf.SlGeneric
import Derived.Shelf.SlIter.Nil
import Derived.Shelf.SortM.Plain
import Derived.Shelf.SortM.SortNone
import Derived.Ground.GgzProg
import Derived.Ground.SlgmProg
import Derived.Test.YtbohejffelipoaaGreatDoorChecked
import Derived.WalkKit
/-
  A store adds an entry to its file, asks, puts, makes sure. No conditions but those named in each line.
-/
namespace Go.Proofs.YtbohejffelipoaaGreatDoor
open Go Go.Abs Go.Abs.F
set_option linter.unusedVariables false

def LOG : Bs := [108, 111, 103]
set_option maxRecDepth 100000 in
theorem may_log : May LOG := fun d s => named_of d s (pureP_val rfl (by kernel_rfl) rfl)

def LogIs (fs : List Fl) (l : List Ent) (sure : Nat) : Prop :=
  (∃ (k : Nat) (f : Fl), fs[k]? = some f ∧ f.nm = LOG ∧ f.l = U (framesB l) ∧ f.sure = placeL l sure) ∨ ((∀ f ∈ fs, f.nm ≠ LOG) ∧ l = [] ∧ sure = 0)

def Grown (fs fs' : List Fl) (bs : Bs) : Prop :=
  (∃ (k : Nat) (f : Fl) (x' : S), fs[k]? = some f ∧ f.nm = LOG ∧ fs' = fs.set k { f with x := x', l := f.l ++ U bs, sure := f.sure }) ∨ ((∀ f ∈ fs, f.nm ≠ LOG) ∧ ∃ (fb : Nat) (x' : S), fs' = fs ++ [⟨LOG, fb, x', U bs, 0⟩])

section
variable {ρ ρ' : Nat → Nat} {s t : St} {D : SBk} {room : Int} {fs fs' : List Fl} {l : List Ent} {q : FoS} {sure : Nat} {i m : Nat} {e : Ent}

theorem HasSt.disk (h : HasSt ρ s D room fs l q sure) (hd : Dk t D.i D.m room fs') (hz : s.size ≤ t.size) (hk : ∀ c, c < s.size → ρ c ≠ 0 → t.get c = s.get c)
    (hf : ∀ f ∈ fs', (f.fb < s.size → ρ f.fb = 0) ∧ ∀ c, own f.x = some c → c < s.size → ρ c = 0) : HasSt (fun c => if c < s.size then ρ c else 0) t D room fs' l q sure := by
  obtain ⟨p1, p2, p3, p4, p5, p6⟩ := h.lts
  obtain ⟨d1, d2, d3⟩ := h.dk.lts
  have r := h.ro
  have k := fun c hc (n : Nat) (e : ρ c = n) (hn : n ≠ 0) => hk c hc (by omega)
  refine ⟨hd, by rw [k _ p1 1 r.p (by omega)]; exact h.st, h.le.keep fun c hc => k _ (p4 c hc) 4 (r.lx c hc) (by omega), h.en.keep fun c hc => k _ (p5 c hc) 5 (r.ex c hc) (by omega),
    h.hf.keepR (K' := fun _ => True) hd.wf (k _ p2 2 r.b (by omega)) (k _ p3 3 r.mp (by omega)) (fun c hc => k _ (p6 c hc) 6 (r.qx c hc) (by omega)), ?_, h.fo, h.wf, h.few, h.su⟩
  refine ⟨by rw [if_pos p1]; exact r.p, by rw [if_pos p2]; exact r.b, by rw [if_pos p3]; exact r.mp, fun c hc => by rw [if_pos (p4 c hc)]; exact r.lx c hc, fun c hc => by rw [if_pos (p5 c hc)]; exact r.ex c hc, fun c hc => by rw [if_pos (p6 c hc)]; exact r.qx c hc,
    by rw [if_pos d1]; exact r.i, by rw [if_pos d2]; exact r.m, fun f hf' => ?_, fun f hf' c hc => ?_⟩
  · by_cases hlt : f.fb < s.size
    · rw [if_pos hlt]; exact (hf f hf').1 hlt
    · rw [if_neg hlt]
  · by_cases hlt : c < s.size
    · rw [if_pos hlt]; exact (hf f hf').2 c hc hlt
    · rw [if_neg hlt]

theorem set_mem {k : Nat} {f g x : Fl} (hk : fs[k]? = some f) (h : x ∈ fs.set k g) : x = g ∨ x ∈ fs := by
  rcases List.mem_or_eq_of_mem_set h with h | h
  · exact .inr h
  · exact .inl h

set_option maxHeartbeats 1000000 in
theorem add_run (d : Nat) (h : HasSt ρ s D room fs l q sure) (hlog : LogIs fs l sure) (hn : Nice fs) (hroom : (tot fs : Int) + (wrapB (putB e)).length ≤ room) (hsz : (framesB l).length ≤ 40000) (he : asksP q e = 0) (hw : EWf e) (hl : l.length < 2000) :
    ∃ ρ' D' fs' t, R (d + 13) 68 [Z (.ptr D.p 0), AE e] s = some (I .i64 0, t) ∧ HasSt ρ' t D' room fs' (l ++ [e]) (nextP q e) sure ∧ LogIs fs' (l ++ [e]) sure ∧ Grown fs fs' (wrapB (putB e)) ∧ s.size ≤ t.size ∧ (D'.p = D.p ∧ D'.i = D.i ∧ D'.m = D.m) ∧
      (∀ c, c < s.size → ρ' c = ρ c) ∧ ∀ c, c < s.size → 7 ≤ ρ c → t.get c = s.get c := by
  have hm := asks_may he
  obtain ⟨p1, p2, p3, p4, p5, p6⟩ := h.lts
  obtain ⟨d1, d2, d3⟩ := h.dk.lts
  have r := h.ro
  obtain ⟨s1, hs1⟩ : ∃ s1, s1 = s.push (.cells true (cE e)) := ⟨_, rfl⟩
  have nw1 : aNew s (nBox (AE e)) = some (Z (.ptr s.size 0), s1) := by rw [hs1]; rfl
  have g1 : Gr s s1 := by rw [hs1]; exact Gr.push h.swf _
  have b1 : s1.get s.size = some (.cells true (cE e)) := by rw [hs1]; exact St.get_push_same _ _
  have l1 := load8 (g := s1.get) b1
  have z1 : s1.size = s.size + 1 := by rw [hs1]; simp
  obtain ⟨y, s2, e2, g2, f2⟩ := frame_run (d + 2) g1.wf e hw
  have hfr : frameE e = some (wrapB (putB e)) := by unfold frameE; rw [if_pos hm]
  have fb := f2 _ hfr
  have hwl := frameE_len hfr
  rw [hfr] at e2
  have b2 := g2.get b1 g1.wf
  have g02 := g1.trans g2
  have z2 := g2.2.1
  obtain ⟨ρ1, hρ1⟩ : ∃ ρ1 : Nat → Nat, ρ1 = fun c => if c < s.size then ρ c else 9 := ⟨_, rfl⟩
  have hρa : ∀ c, c < s.size → ρ1 c = ρ c := fun c hc => by rw [hρ1]; exact if_pos hc
  have hρb : ∀ c, s.size ≤ c → ρ1 c = 9 := fun c hc => by rw [hρ1]; exact if_neg (by omega)
  have h2 : HasSt ρ1 s2 D room fs l q sure := (h.rho hρa).gr g02
  have q0 : aLoad1 (Z (.ptr D.p 0)) s2.get = some (Z (.ptr D.i 0)) := aLoad1_of h2.st rfl
  have hUl : (U (wrapB (putB e))).length = (wrapB (putB e)).length := by simp [U]
  have hy : RdL s2 y (U (wrapB (putB e))) := by
    have := fb.rd
    rw [← hUl] at this
    exact this
  have yl : ∀ c, own y = some c → s1.size ≤ c ∧ c < s2.size := fb.new
  have r2 := h2.ro
  have step : ∃ fs' s3, R (d + 12) 12 [Z (.ptr D.i 0), Z (.str LOG), Z y] s2 = some (I .i64 0, s3) ∧ HasSt (fun c => if c < s2.size then ρ1 c else 0) s3 D room fs' l q sure ∧ Grown fs fs' (wrapB (putB e)) ∧ LogIs fs' (l ++ [e]) sure ∧ s2.size ≤ s3.size ∧ ∀ c, c < s2.size → ρ1 c ≠ 0 → s3.get c = s2.get c := by
    rcases hlog with ⟨k, f, hk, hnm, hfl, hfs⟩ | ⟨hno, rfl, rfl⟩
    · have hfm := List.mem_of_getElem? hk
      have hflen : f.l.length = (framesB l).length := by rw [hfl]; simp [U]
      obtain ⟨x', s3, e3, k3, z3, o3, n3⟩ := dappend_run (d + 9) h2.dk hn hk (by rw [hnm]; exact may_log) hy (fun c hc => (yl c hc).2) (by rw [hUl]; exact hroom) (by omega) (by omega)
      rw [hnm] at e3
      have kk : ∀ c, c < s2.size → ρ1 c ≠ 0 → s3.get c = s2.get c := fun c hc hr => o3 c hc (fun e => hr (by rw [e]; exact r2.fb f hfm)) (fun e => hr (r2.fx f hfm c e))
      refine ⟨_, s3, e3, h2.disk k3 z3 kk fun g hg => ?_, .inl ⟨k, f, x', hk, hnm, rfl⟩, .inl ⟨k, { f with x := x', l := f.l ++ U (wrapB (putB e)), sure := f.sure }, ?_, hnm, ?_, ?_⟩, z3, kk⟩
      · rcases set_mem hk hg with rfl | hg
        · refine ⟨fun _ => r2.fb f hfm, fun c hc hlt => ?_⟩
          rcases n3 with e | e | ⟨c', e, hc'⟩
          · rw [e] at hc; cases hc
          · rw [e] at hc; exact r2.fx f hfm c hc
          · rw [e] at hc; cases hc; omega
        · exact ⟨fun _ => r2.fb g hg, fun c hc _ => r2.fx g hg c hc⟩
      · rw [List.getElem?_set]
        have := (List.getElem?_eq_some_iff.1 hk).1
        simp [this]
      · show f.l ++ U _ = _
        rw [hfl, framesB_snoc]
        simp [U]
      · show f.sure = _
        rw [hfs, placeL_append _ _ h.su]
    · obtain ⟨x', fb', s3, e3, k3, z3, o3, n3, m3⟩ := dappend_new (d + 9) h2.dk hn hno may_log hy (fun c hc => (yl c hc).2) (fun e => by have := yl _ e; omega) (by rw [hUl]; exact hroom) (by omega)
      have kk : ∀ c, c < s2.size → ρ1 c ≠ 0 → s3.get c = s2.get c := fun c hc hr => o3 c hc (fun e => hr (by rw [e]; exact r2.m))
      refine ⟨_, s3, e3, h2.disk k3 z3 kk fun g hg => ?_, .inr ⟨hno, fb', x', rfl⟩, .inl ⟨fs.length, ⟨LOG, fb', x', U (wrapB (putB e)), 0⟩, by simp, rfl, ?_, ?_⟩, z3, kk⟩
      · rcases List.mem_append.1 hg with hg | hg
        · exact ⟨fun _ => r2.fb g hg, fun c hc _ => r2.fx g hg c hc⟩
        · rw [List.mem_singleton] at hg
          subst hg
          exact ⟨fun hlt => by have : fb' < s2.size := hlt; omega, fun c hc hlt => by have := m3 c hc; omega⟩
      · show U _ = U _
        simp [framesB]
      · show 0 = _
        rw [placeL_zero]
  obtain ⟨fs', s3, e3, h3, hg, hlog', z3, k3⟩ := step
  have b3 : s3.get s.size = some (.cells true (cE e)) := by rw [k3 _ (by omega) (by rw [hρb _ (Nat.le_refl _)]; decide)]; exact b2
  have l3 := load8 (g := s3.get) b3
  obtain ⟨ρ', D', t, e4, h4, z4, hD, hρ', k4⟩ := note_run (d + 1) h3 he hw hl
  have hρf : ∀ c, c < s.size → ρ' c = ρ c := fun c hc => by rw [hρ' c (by omega), if_pos (by omega), hρa c hc]
  refine ⟨ρ', D', fs', t, ?_, h4, hlog', hg, by omega, hD, hρf, fun c hc hr => ?_⟩
  · rw [f68_run]
    unfold f68
    simp only [Nat.add_assoc, Nat.reduceAdd] at e2 e4
    rw [show LOG = [108, 111, 103] from rfl] at e3
    generalize R (d + 12) = rr at *
    simp [nw1, l1, e2, aExtract, q0, e3, l3, e4]
  · have hc1 : ρ1 c = ρ c := hρa c hc
    rw [k4 c (by omega) (by rw [if_pos (by omega), hc1]; exact .inr hr), k3 c (by omega) (by omega), g02.2.2 c hc]

theorem asks_run (d : Nat) (h : HasSt ρ s D room fs l q sure) (hl : l.length < 2000) (e : Ent) : ∃ t, R (d + 10) 67 [Z (.ptr D.p 0), AE e] s = some (I .i64 (asksP q e), t) ∧ Gr s t := by
  obtain ⟨hall, hok, hev⟩ := h.ok
  obtain ⟨s1, hs1⟩ : ∃ s1, s1 = s.push (.cells true (cE e)) := ⟨_, rfl⟩
  have nw1 : aNew s (nBox (AE e)) = some (Z (.ptr s.size 0), s1) := by rw [hs1]; rfl
  have g1 : Gr s s1 := by rw [hs1]; exact Gr.push h.swf _
  have b1 : s1.get s.size = some (.cells true (cE e)) := by rw [hs1]; exact St.get_push_same _ _
  have l1 := load8 (g := s1.get) b1
  have h1 := h.gr g1
  have q3 : aLoad1 (Z (.ptr D.p 3)) s1.get = some (Z (.ptr D.b 0)) := aLoad1_of h1.st rfl
  obtain ⟨t, e2, g2⟩ := stAsks_run d h1.hf hok (by have := hok.len; omega) e
  have h2 := h1.gr g2
  have q1 : aLoad1 (Z (.ptr D.p 1)) t.get = some (Z D.lx) := aLoad1_of h2.st rfl
  have ll := h2.le.rd.lens
  have c0 : ¬ (l.length : Int) = 2000 := by omega
  refine ⟨t, ?_, g1.trans g2⟩
  rw [f67_run]
  unfold f67
  generalize R (d + 9) = rr at *
  generalize (l.length : Int) = LL at *
  by_cases hz : asksP q e = 0
  · rw [hz] at e2 ⊢
    simp [nw1, l1, q3, e2, q1, ll, c0]
  · generalize asksP q e = A at *
    simp [nw1, l1, q3, e2, hz]

set_option maxHeartbeats 1000000 in
theorem put_run' (d : Nat) (h : HasSt ρ s D room fs l q sure) (hlog : LogIs fs l sure) (hn : Nice fs) (hroom : (tot fs : Int) + (wrapB (putB e)).length ≤ room) (hsz : (framesB l).length ≤ 40000) (he : asksP q e = 0) (hw : EWf e) (hl : l.length < 2000) (hk1 : e.k ≠ 1) (hk2 : e.k ≠ 2) :
    ∃ ρ' D' fs' t, R (d + 14) 18 [Z (.ptr D.p 0), AE e] s = some (I .i64 0, t) ∧ HasSt ρ' t D' room fs' (l ++ [e]) (nextP q e) sure ∧ LogIs fs' (l ++ [e]) sure ∧ Grown fs fs' (wrapB (putB e)) ∧ s.size ≤ t.size ∧ (D'.p = D.p ∧ D'.i = D.i ∧ D'.m = D.m) ∧
      (∀ c, c < s.size → ρ' c = ρ c) ∧ ∀ c, c < s.size → 7 ≤ ρ c → t.get c = s.get c := by
  obtain ⟨s1, hs1⟩ : ∃ s1, s1 = s.push (.cells true (cE e)) := ⟨_, rfl⟩
  have nw1 : aNew s (nBox (AE e)) = some (Z (.ptr s.size 0), s1) := by rw [hs1]; rfl
  have g1 : Gr s s1 := by rw [hs1]; exact Gr.push h.swf _
  have b1 : s1.get s.size = some (.cells true (cE e)) := by rw [hs1]; exact St.get_push_same _ _
  have l1 := load8 (g := s1.get) b1
  have h1 := h.gr g1
  obtain ⟨s2, e2, g2⟩ := asks_run (d + 3) h1 hl e
  rw [he] at e2
  have h2 := h1.gr g2
  have b2 := g2.get b1 g1.wf
  have l2 := load8 (g := s2.get) b2
  have k2 : aLoad1 (Z (.ptr s.size 0)) s2.get = some (I .i64 e.k) := aLoad1_of b2 rfl
  obtain ⟨ρ', D', fs', t, e3, h3, hlog', hg, z3, hD, hρ, k3⟩ := add_run d h2 hlog hn hroom hsz he hw hl
  have g02 := g1.trans g2
  have z02 := g02.2.1
  have np : eqB .p (Z (.ptr D.p 0)) (Z .nilp) = some (B false) := rfl
  refine ⟨ρ', D', fs', t, ?_, h3, hlog', hg, by omega, hD, fun c hc => hρ c (by omega), fun c hc hr => by rw [k3 c (by omega) hr, g02.2.2 c hc]⟩
  rw [f18_run]
  unfold f18
  simp only [Nat.add_assoc, Nat.reduceAdd] at e2
  generalize R (d + 13) = rr at *
  simp [nw1, np, l1, e2, k2, hk1, hk2, l2, e3]
end
end Go.Proofs.YtbohejffelipoaaGreatDoor


/-
  A store is made sure; its policy, its entries, how many are sure. No conditions but those named in each line.
-/
namespace Go.Proofs.YtbohejffelipoaaGreatDoor
open Go Go.Abs Go.Abs.F
set_option linter.unusedVariables false
section
variable {ρ ρ' : Nat → Nat} {s t : St} {D : SBk} {room : Int} {fs fs' : List Fl} {l : List Ent} {q : FoS} {sure : Nat} {i m : Nat} {e : Ent}

theorem dsync_none (d : Nat) (h : Dk s i m room fs) {nm : List UInt8} (hno : ∀ g ∈ fs, g.nm ≠ nm) (hm : May nm) : R (d + 3) 47 [Z (.ptr i 0), Z (.str nm)] s = some (I .i64 9, s) := by
  rw [f47_run]
  unfold f47
  have e1 := dfind_none d h hno hm
  generalize R (d + 2) = r at e1 ⊢
  simp [e1, aExtract]

def Synced (fs fs' : List Fl) : Prop :=
  (∃ (k : Nat) (f : Fl), fs[k]? = some f ∧ f.nm = LOG ∧ fs' = fs.set k { f with x := f.x, l := f.l, sure := f.l.length }) ∨ ((∀ f ∈ fs, f.nm ≠ LOG) ∧ fs' = fs)

theorem HasSt.setSure (h : HasSt ρ s D room fs l q sure) {n : Nat} (hn : n ≤ l.length) : HasSt ρ (s.set D.p (.cells true (cSt D.i D.b D.lx D.ex n))) D room fs l q n := by
  obtain ⟨p1, p2, p3, p4, p5, p6⟩ := h.lts
  obtain ⟨d1, d2, d3⟩ := h.dk.lts
  have r := h.ro
  have k : ∀ c (j : Nat), ρ c = j → j ≠ 1 → (s.set D.p (.cells true (cSt D.i D.b D.lx D.ex n))).get c = s.get c := fun c j e hj => St.get_set_ne _ _ fun e' => by
    rw [e', r.p] at e
    exact hj e.symm
  have wf : (s.set D.p (.cells true (cSt D.i D.b D.lx D.ex n))).wf := St.wf_set h.swf p1 _
  exact ⟨h.dk.keepR wf (by simp) (k _ 0 r.i (by decide)) (k _ 0 r.m (by decide)) (fun f hf => ⟨k _ 0 (r.fb f hf) (by decide), fun c hc => k _ 0 (r.fx f hf c hc) (by decide)⟩), St.get_set_same _ _ _,
    h.le.keep fun c hc => k _ 4 (r.lx c hc) (by decide), h.en.keep fun c hc => k _ 5 (r.ex c hc) (by decide), h.hf.keepR (K' := fun _ => True) wf (k _ 2 r.b (by decide)) (k _ 3 r.mp (by decide)) (fun c hc => k _ 6 (r.qx c hc) (by decide)), r, h.fo, h.wf, h.few, hn⟩

theorem sync_run (d : Nat) (h : HasSt ρ s D room fs l q sure) (hlog : LogIs fs l sure) :
    ∃ ρ' fs' t, R (d + 4) 19 [Z (.ptr D.p 0)] s = some (I .i64 0, t) ∧ HasSt ρ' t D room fs' l q l.length ∧ LogIs fs' l l.length ∧ Synced fs fs' ∧ s.size ≤ t.size ∧ (∀ c, c < s.size → ρ' c = ρ c) ∧ ∀ c, c < s.size → 7 ≤ ρ c → t.get c = s.get c := by
  have r := h.ro
  have p1 := h.lts.1
  have q0 : aLoad1 (Z (.ptr D.p 0)) s.get = some (Z (.ptr D.i 0)) := aLoad1_of h.st rfl
  have np : eqB .p (Z (.ptr D.p 0)) (Z .nilp) = some (B false) := rfl
  have step : ∃ ρ' fs' s1 c, R (d + 3) 47 [Z (.ptr D.i 0), Z (.str LOG)] s = some (I .i64 c, s1) ∧ HasSt ρ' s1 D room fs' l q sure ∧ LogIs fs' l l.length ∧ Synced fs fs' ∧ s.size ≤ s1.size ∧ (∀ c, c < s.size → ρ' c = ρ c) ∧ ∀ c, c < s.size → 7 ≤ ρ c → s1.get c = s.get c := by
    rcases hlog with ⟨k, f, hk, hnm, hfl, hfs⟩ | ⟨hno, rfl, rfl⟩
    · have hfm := List.mem_of_getElem? hk
      obtain ⟨s1, e1, k1, z1, o1⟩ := dsync_run d h.dk hk (by rw [hnm]; exact may_log)
      rw [hnm] at e1
      refine ⟨_, _, s1, 0, e1, h.disk k1 z1 (fun c hc hr => o1 c fun e => hr (by rw [e]; exact r.fb f hfm)) fun g hg => ?_, .inl ⟨k, { f with x := f.x, l := f.l, sure := f.l.length }, ?_, hnm, hfl, ?_⟩, .inl ⟨k, f, hk, hnm, rfl⟩, z1, fun c hc => if_pos hc, fun c hc hr => o1 c fun e => by rw [e, r.fb f hfm] at hr; omega⟩
      · rcases set_mem hk hg with rfl | hg
        · exact ⟨fun _ => r.fb f hfm, fun c hc _ => r.fx f hfm c hc⟩
        · exact ⟨fun _ => r.fb g hg, fun c hc _ => r.fx g hg c hc⟩
      · rw [List.getElem?_set]
        have := (List.getElem?_eq_some_iff.1 hk).1
        simp [this]
      · show f.l.length = _
        rw [placeL_all, hfl]
        simp [U]
    · exact ⟨ρ, fs, s, 9, dsync_none d h.dk hno may_log, h, .inr ⟨hno, rfl, rfl⟩, .inr ⟨hno, rfl⟩, Nat.le_refl _, fun _ _ => rfl, fun _ _ _ => rfl⟩
  obtain ⟨ρ', fs', s1, C, e1, h1, hlog', hS, z1, hρ, k1⟩ := step
  have q1 : aLoad1 (Z (.ptr D.p 1)) s1.get = some (Z D.lx) := aLoad1_of h1.st rfl
  have ll := h1.le.rd.lens
  have st : aStore 1 (Z (.ptr D.p 4)) (I .i64 (l.length : Nat)) s1 = some (tt, s1.set D.p (.cells true (cSt D.i D.b D.lx D.ex l.length))) := aStore1_of h1.st (by simp)
  refine ⟨ρ', fs', _, ?_, h1.setSure (Nat.le_refl _), hlog', hS, by simpa using z1, hρ, fun c hc hr => ?_⟩
  · rw [f19_run]
    unfold f19
    rw [show LOG = [108, 111, 103] from rfl] at e1
    generalize R (d + 3) = rr at *
    generalize (l.length : Int) = LL at *
    simp [np, q0, e1, q1, ll, st]
  · rw [St.get_set_ne _ _ (fun e => by rw [e, r.p] at hr; omega)]
    exact k1 c hc hr

theorem sure_run (d : Nat) (h : HasSt ρ s D room fs l q sure) : R (d + 1) 24 [Z (.ptr D.p 0)] s = some (I .i64 sure, s) := by
  have q4 : aLoad1 (Z (.ptr D.p 4)) s.get = some (I .i64 sure) := aLoad1_of h.st rfl
  have np : eqB .p (Z (.ptr D.p 0)) (Z .nilp) = some (B false) := rfl
  rw [f24_run]
  unfold f24
  simp [np, q4]

theorem rule_run (d : Nat) (h : HasSt ρ s D room fs l q sure) : ∃ t, R (d + 2) 32 [Z (.ptr D.p 0)] s = some (AP q.rule, t) ∧ Gr s t := by
  have np : eqB .p (Z (.ptr D.p 0)) (Z .nilp) = some (B false) := rfl
  obtain ⟨s1, hs1⟩ : ∃ s1, s1 = s.push (.cells true (cP pol0)) := ⟨_, rfl⟩
  have nw1 : aNew s (nCells [.int .i64 0, .int .i64 0, .int .i64 0, .int .i64 0, .int .i64 0, .int .i64 0]) = some (Z (.ptr s.size 0), s1) := by rw [hs1]; rfl
  have g1 : Gr s s1 := by rw [hs1]; exact Gr.push h.swf _
  have b1 : s1.get s.size = some (.cells true (cP pol0)) := by rw [hs1]; exact St.get_push_same _ _
  have h1 := h.gr g1
  have q3 : aLoad1 (Z (.ptr D.p 3)) s1.get = some (Z (.ptr D.b 0)) := aLoad1_of h1.st rfl
  obtain ⟨s2, hs2⟩ : ∃ s2, s2 = s1.push (.cells true (cP pol0)) := ⟨_, rfl⟩
  have nw2 : aNew s1 (nCells [.int .i64 0, .int .i64 0, .int .i64 0, .int .i64 0, .int .i64 0, .int .i64 0]) = some (Z (.ptr s1.size 0), s2) := by rw [hs2]; rfl
  have g2 : Gr s1 s2 := by rw [hs2]; exact Gr.push g1.wf _
  have b2 : s2.get s1.size = some (.cells true (cP pol0)) := by rw [hs2]; exact St.get_push_same _ _
  have rl := rule_load (h1.gr g2).hf.st
  obtain ⟨s3, hs3⟩ : ∃ s3, s3 = s2.set s1.size (.cells true (cP q.rule)) := ⟨_, rfl⟩
  have st3 : aStore 6 (Z (.ptr s1.size 0)) (AP q.rule) s2 = some (tt, s3) := by rw [hs3]; exact store6 b2 rfl
  have lr3 : aLoadN 6 (Z (.ptr s1.size 0)) s3.get = some (AP q.rule) := load6 (by rw [hs3]; exact St.get_set_same _ _ _)
  have z2 := g2.2.1
  have g3 : Gr s1 s3 := by
    rw [hs3]
    exact ⟨St.wf_set g2.wf (g2.wf.lt b2) _, by simpa using z2, fun c hc => by rw [St.get_set_ne _ _ (by omega)]; exact g2.2.2 c hc⟩
  have e2 : R (d + 1) 84 [Z (.ptr D.b 0)] s1 = some (AP q.rule, s3) := by
    rw [f84_run]
    unfold f84
    simp [nw2, rl, st3, lr3, rC, retT, allV]
  have b3 := g3.get b1 g1.wf
  obtain ⟨s4, hs4⟩ : ∃ s4, s4 = s3.set s.size (.cells true (cP q.rule)) := ⟨_, rfl⟩
  have st4 : aStore 6 (Z (.ptr s.size 0)) (AP q.rule) s3 = some (tt, s4) := by rw [hs4]; exact store6 b3 rfl
  have lr4 : aLoadN 6 (Z (.ptr s.size 0)) s4.get = some (AP q.rule) := load6 (by rw [hs4]; exact St.get_set_same _ _ _)
  have g13 := g1.trans g3
  refine ⟨s4, ?_, ?_⟩
  · rw [f32_run]
    unfold f32
    generalize R (d + 1) = rr at *
    simp [nw1, np, q3, e2, st4, lr4, rC, retT, allV]
  · rw [hs4]
    exact ⟨St.wf_set g13.wf (g13.wf.lt b3) _, by simpa using g13.2.1, fun c hc => by rw [St.get_set_ne _ _ (by omega)]; exact g13.2.2 c hc⟩

theorem entries_run (d : Nat) (h : HasSt ρ s D room fs l q sure) : ∃ y t, R (d + 2) 23 [Z (.ptr D.p 0)] s = some (Z y, t) ∧ Fr 8 s t y l.length (cells cE l) := by
  have np : eqB .p (Z (.ptr D.p 0)) (Z .nilp) = some (B false) := rfl
  have q1 : aLoad1 (Z (.ptr D.p 1)) s.get = some (Z D.lx) := aLoad1_of h.st rfl
  have hcl := cells_len (e := 8) cE_len l
  have hlt := h.lts.2.2.2.1
  have few := h.few
  have cl : ∃ y t, R (d + 1) 78 [Z D.lx] s = some (Z y, t) ∧ Fr 8 s t y l.length (cells cE l) := by
    rw [f78_run]
    unfold f78
    have go : eqB .l (Z D.lx) (Z .nils) = some (B false) → ∃ y t, (bd (eqB .l (Z D.lx) (Z .nils)) fun t4 => br t4 (some ((Z .nils), s)) (bd2 (aNew s (nSlice 0 (aFill [] []))) fun t5 s1 => bd2 (aAppend 8 72 t5 (Z D.lx) s1) fun t7 s2 => some (t7, s2))) = some (Z y, t) ∧ Fr 8 s t y l.length (cells cE l) := by
      intro e
      have f0 := Fr.lit 8 h.swf (n := 0) (vs := []) rfl
      have nw : aNew s (nSlice 0 (aFill [] [])) = some (Z (.sl s.size 0 0 (.known 0)), s.push (.cells true [])) := by simp [aNew, nSlice, aFill]
      obtain ⟨y, t, ap, f, _⟩ := f0.append (by_ := 72) (by omega) (h.le.rd.gr hlt f0.gr).src hcl (by omega)
      simp only [Nat.zero_add, List.nil_append] at f
      exact ⟨y, t, by simp [e, nw, ap], f⟩
    rcases h.le.ow with ⟨hx, hz⟩ | ⟨c, rows, hx, hz, _⟩ | ⟨c, rows, cap, hx, hc, _⟩
    · have hl : l = [] := List.eq_nil_of_length_eq_zero hz
      rw [hx]
      have e : eqB .l (Z .nils) (Z .nils) = some (B true) := rfl
      refine ⟨.nils, s, by simp [e], ?_⟩
      rw [hl]
      exact Fr.nil 8 h.swf
    · exact go (by rw [hx]; rfl)
    · exact go (by rw [hx]; rcases hc with rfl | rfl <;> rfl)
  obtain ⟨y, t, e1, f1⟩ := cl
  refine ⟨y, t, ?_, f1⟩
  rw [f23_run]
  unfold f23
  generalize R (d + 1) = rr at *
  simp [np, q1, e1]
end
end Go.Proofs.YtbohejffelipoaaGreatDoor


/-
  Open notes what its file holds: the loop. No conditions but those named in each line.
-/
namespace Go.Proofs.YtbohejffelipoaaGreatDoor
open Go Go.Abs Go.Abs.F
set_option linter.unusedVariables false
section
variable {ρ ρ' : Nat → Nat} {s t s6 u : St} {D : SBk} {room : Int} {fs fs' : List Fl} {l es : List Ent} {q : FoS} {sure : Nat} {i m : Nat} {e : Ent} {y : S} {v0 : T}

theorem load_loop (d : Nat) (h : HasSt ρ s6 D room fs [] fs0 0) (hy : RE s6 y es) (hyl : ∀ c, own y = some c → c < s6.size ∧ 7 ≤ ρ c) (hw : ∀ e ∈ es, EWf e) (hf : foldGo fs0 es = (0, q)) (hl : es.length ≤ 2000) :
    ∃ ρ' D' t, loops (f14_l1 (R (d + 12)) 8192) 8192 [v0, Z (.ptr D.p 0), Z y, I .i64 es.length, I .i64 0] s6 = some (.exit 0 [v0, Z (.ptr D.p 0)], t) ∧ HasSt ρ' t D' room fs es q 0 ∧ s6.size ≤ t.size ∧ (D'.p = D.p ∧ D'.i = D.i ∧ D'.m = D.m) ∧
      (∀ c, c < s6.size → ρ' c = ρ c) ∧ ∀ c, c < s6.size → (ρ c = 0 ∨ 7 ≤ ρ c) → t.get c = s6.get c := by
  obtain ⟨j, t, lp, rfl, hfin⟩ := loops_inv (f := f14_l1 (R (d + 12)) 8192)
    (fun f v u => ∃ (k : Nat) (ρ' : Nat → Nat) (D' : SBk) (qk : FoS), f + k = es.length ∧ v = [v0, Z (.ptr D.p 0), Z y, I .i64 es.length, I .i64 k] ∧ HasSt ρ' u D' room fs (es.take k) qk 0 ∧ foldGo qk (es.drop k) = (0, q) ∧ s6.size ≤ u.size ∧ (D'.p = D.p ∧ D'.i = D.i ∧ D'.m = D.m) ∧
      (∀ c, c < s6.size → ρ' c = ρ c) ∧ ∀ c, c < s6.size → (ρ c = 0 ∨ 7 ≤ ρ c) → u.get c = s6.get c)
    (fun j u => j = .exit 0 [v0, Z (.ptr D.p 0)] ∧ ∃ (ρ' : Nat → Nat) (D' : SBk), HasSt ρ' u D' room fs es q 0 ∧ s6.size ≤ u.size ∧ (D'.p = D.p ∧ D'.i = D.i ∧ D'.m = D.m) ∧
      (∀ c, c < s6.size → ρ' c = ρ c) ∧ ∀ c, c < s6.size → (ρ c = 0 ∨ 7 ≤ ρ c) → u.get c = s6.get c) (by
    rintro f v u ⟨k, ρ', D', qk, hk, rfl, H, hgo, hz, ⟨hp, hi, hm⟩, hρ, hkeep⟩
    by_cases hkl : k < es.length
    · left
      have hc : es[k]? = some es[k] := List.getElem?_eq_getElem hkl
      obtain ⟨e, he⟩ : ∃ e, e = es[k] := ⟨_, rfl⟩
      rw [← he] at hc
      have hdr : es.drop k = e :: es.drop (k + 1) := by rw [List.drop_eq_getElem_cons hkl, he]
      rw [hdr] at hgo
      have ha : asksP qk e = 0 := by
        by_cases h0 : asksP qk e = 0
        · exact h0
        · simp only [foldGo, if_neg h0] at hgo
          injection hgo with h1 h2
      have hgo' : foldGo (nextP qk e) (es.drop (k + 1)) = (0, q) := by
        simpa only [foldGo, if_pos ha] using hgo
      have hyu : RE u y es := hy.keep fun c hc => hkeep c (hyl c hc).1 (.inr (hyl c hc).2)
      obtain ⟨p, ix, ld⟩ := hyu.atE (n := ((k : Nat) : Int)) rfl hc
      have c0 : ((k : Nat) : Int) < ((es.length : Nat) : Int) := by omega
      have w1 : IntKind.i64.wrap ((k : Int) + 1) = ((k + 1 : Nat) : Int) := by rw [wrap_in _ (by omega) (by omega)]; omega
      obtain ⟨u1, hu1⟩ : ∃ u1, u1 = u.push (.cells true (cE ent0)) := ⟨_, rfl⟩
      have nw3 : aNew u (nCells [.int .i64 0, .int .i64 0, .int .i64 0, .int .i64 0, .int .i64 0, .int .i64 0, .int .u32 0, .str []]) = some (Z (.ptr u.size 0), u1) := by rw [hu1]; rfl
      have b1 : u1.get u.size = some (.cells true (cE ent0)) := by rw [hu1]; exact St.get_push_same _ _
      have gu1 : Gr u u1 := by rw [hu1]; exact Gr.push H.swf _
      obtain ⟨u2, hu2⟩ : ∃ u2, u2 = u1.set u.size (.cells true (cE e)) := ⟨_, rfl⟩
      have st2 : aStore 8 (Z (.ptr u.size 0)) (AE e) u1 = some (tt, u2) := by rw [hu2]; exact store8 b1 rfl
      have gu2 : Gr u u2 := by
        rw [hu2]
        exact ⟨St.wf_set gu1.wf (gu1.wf.lt b1) _, by simpa using gu1.2.1, fun c hc => by rw [St.get_set_ne _ _ (by omega)]; exact gu1.2.2 c hc⟩
      have l2 : aLoadN 8 (Z (.ptr u.size 0)) u2.get = some (AE e) := load8 (by rw [hu2]; exact St.get_set_same _ _ _)
      have htl : (es.take k).length = k := by rw [List.length_take]; omega
      obtain ⟨ρ2, D2, u3, e3, H3, z3, ⟨hp3, hi3, hm3⟩, hρ3, k3⟩ := note_run (d + 1) (H.gr gu2) ha (hw e (List.mem_of_getElem? hc)) (by omega)
      rw [hp] at e3
      have z2 := gu2.2.1
      have htk : es.take k ++ [e] = es.take (k + 1) := by rw [List.take_add_one, hc]; rfl
      rw [htk] at H3
      refine ⟨[v0, Z (.ptr D.p 0), Z y, I .i64 es.length, I .i64 ((k + 1 : Nat) : Int)], u3, f - 1, ?_, by omega, k + 1, ρ2, D2, nextP qk e, by omega, rfl, H3, hgo', by omega, ⟨hp3.trans hp, hi3.trans hi, hm3.trans hm⟩, fun c hc => by rw [hρ3 c (by omega), hρ c hc], fun c hc hr => ?_⟩
      · unfold f14_l1
        simp only [Nat.add_assoc, Nat.reduceAdd] at e3
        clear hgo hgo' hdr
        generalize R (d + 12) = r at *
        generalize ((k + 1 : Nat) : Int) = K1 at *
        generalize ((k : Nat) : Int) = K at *
        generalize ((es.length : Nat) : Int) = LL at *
        generalize u.size = us at *
        simp [c0, ix, ld, nw3, st2, l2, e3, w1]
      · rw [k3 c (by omega) (by rw [hρ c hc]; exact hr), gu2.2.2 c (by omega)]
        exact hkeep c hc hr
    · right
      have c0 : ¬ ((k : Nat) : Int) < ((es.length : Nat) : Int) := by omega
      have hke : k = es.length := by omega
      subst hke
      rw [List.take_length] at H
      rw [List.drop_length] at hgo
      have hq : qk = q := by simp only [foldGo] at hgo; injection hgo
      refine ⟨_, u, ?_, (fun v hv => by cases hv), rfl, ρ', D', by rw [← hq]; exact H, hz, ⟨hp, hi, hm⟩, hρ, hkeep⟩
      unfold f14_l1
      generalize ((es.length : Nat) : Int) = LL at *
      simp [c0]) 8192 es.length [v0, Z (.ptr D.p 0), Z y, I .i64 es.length, I .i64 0] s6
    ⟨0, ρ, D, fs0, by omega, rfl, by simpa using h, by simpa using hf, Nat.le_refl _, ⟨rfl, rfl, rfl⟩, fun _ _ => rfl, fun _ _ _ => rfl⟩ (by omega)
  obtain ⟨ρ', D', a1, a2, a3, a4, a5⟩ := hfin
  exact ⟨ρ', D', t, lp, a1, a2, a3, a4, a5⟩
end
end Go.Proofs.YtbohejffelipoaaGreatDoor


/-
  Pieces of Open: the file is cut and made sure; no segment is looked for; the names are gone through. No conditions but those named in each line.
-/
namespace Go.Proofs.YtbohejffelipoaaGreatDoor
open Go Go.Abs Go.Abs.F
set_option linter.unusedVariables false
section
variable {ρ ρ' : Nat → Nat} {s t : St} {D : SBk} {room : Int} {fs fs' : List Fl} {l es : List Ent} {q : FoS} {sure : Nat} {i m : Nat} {e : Ent} {y : S} {v0 v1 : T} {bs : Bs}

theorem dcut_none (d : Nat) (h : Dk s i m room fs) {nm : List UInt8} (hno : ∀ g ∈ fs, g.nm ≠ nm) (hm : May nm) (n : Int) : R (d + 3) 45 [Z (.ptr i 0), Z (.str nm), I .i64 n] s = some (I .i64 9, s) := by
  rw [f45_run]
  unfold f45
  have e1 := dfind_none d h hno hm
  generalize R (d + 2) = r at e1 ⊢
  simp [e1, aExtract]

def OnlyLog (fs : List Fl) (bs : Bs) : Prop := (fs = [] ∧ bs = []) ∨ ∃ f, fs = [f] ∧ f.nm = LOG ∧ f.l = U bs

theorem cutsync (d : Nat) (h : HasSt ρ s D room fs l q sure) (ho : OnlyLog fs bs) {N : Nat} (hN : N ≤ bs.length) :
    ∃ ρ' fs' s8 s9 c1 c2, R (d + 3) 45 [Z (.ptr D.i 0), Z (.str LOG), I .i64 N] s = some (I .i64 c1, s8) ∧ R (d + 3) 47 [Z (.ptr D.i 0), Z (.str LOG)] s8 = some (I .i64 c2, s9) ∧ HasSt ρ' s9 D room fs' l q sure ∧ OnlyLog fs' (bs.take N) ∧ (∀ f ∈ fs', f.sure = N) ∧
      s.size ≤ s8.size ∧ s.size ≤ s9.size ∧ (∀ c, c < s.size → ρ' c = ρ c) ∧ ∀ c, c < s.size → ρ c ≠ 0 → s8.get c = s.get c ∧ s9.get c = s.get c := by
  have r := h.ro
  rcases ho with ⟨rfl, rfl⟩ | ⟨f, rfl, hnm, hfl⟩
  · have hn : ∀ g ∈ ([] : List Fl), g.nm ≠ LOG := fun g hg => by cases hg
    exact ⟨ρ, [], s, s, 9, 9, dcut_none d h.dk hn may_log _, dsync_none d h.dk hn may_log, h, .inl ⟨rfl, by simp⟩, fun f hf => (by cases hf), Nat.le_refl _, Nat.le_refl _, fun _ _ => rfl, fun _ _ _ => ⟨rfl, rfl⟩⟩
  · have hfm : f ∈ [f] := by simp
    have hlen : f.l.length = bs.length := by rw [hfl]; simp [U]
    obtain ⟨x', s8, e8, k8, z8, o8, n8⟩ := dcut_run d h.dk (k := 0) (f := f) rfl (by rw [hnm]; exact may_log) (n := N) (by omega)
    rw [hnm] at e8
    have kk8 : ∀ c, c < s.size → ρ c ≠ 0 → s8.get c = s.get c := fun c hc hr => o8 c fun e => hr (by rw [e]; exact r.fb f hfm)
    have h8 := h.disk k8 z8 kk8 fun g hg => by
      rcases set_mem (fs := [f]) (k := 0) (f := f) rfl hg with rfl | hg
      · refine ⟨fun _ => r.fb f hfm, fun c hc _ => ?_⟩
        rcases n8 with e | e
        · rw [e] at hc; cases hc
        · rw [e] at hc; exact r.fx f hfm c hc
      · exact ⟨fun _ => r.fb g hg, fun c hc _ => r.fx g hg c hc⟩
    obtain ⟨s9, e9, k9, z9, o9⟩ := dsync_run d h8.dk (k := 0) (f := { f with x := x', l := f.l.take N, sure := min f.sure N }) rfl (by show May f.nm; rw [hnm]; exact may_log)
    have e9' : R (d + 3) 47 [Z (.ptr D.i 0), Z (.str LOG)] s8 = some (I .i64 0, s9) := by
      have := e9
      rw [show ({ f with x := x', l := f.l.take N, sure := min f.sure N } : Fl).nm = LOG from hnm] at this
      exact this
    have r8 := h8.ro
    have hfm8 : ({ f with x := x', l := f.l.take N, sure := min f.sure N } : Fl) ∈ ([f].set 0 { f with x := x', l := f.l.take N, sure := min f.sure N }) := by simp
    have h9 := h8.disk k9 z9 (fun c hc hr => o9 c fun e => hr (by rw [e]; exact r8.fb _ hfm8)) fun g hg => by
      have hg' : g = { f with x := x', l := f.l.take N, sure := (f.l.take N).length } := by simpa using hg
      subst hg'
      have a := r8.fb _ hfm8
      have b := r8.fx _ hfm8
      exact ⟨fun _ => a, fun c hc _ => b c hc⟩
    refine ⟨_, _, s8, s9, 0, 0, e8, e9', h9, .inr ⟨_, rfl, hnm, ?_⟩, fun g hg => ?_, z8, by omega, fun c hc => by rw [if_pos (by omega), if_pos hc], fun c hc hr => ⟨kk8 c hc hr, ?_⟩⟩
    · show f.l.take N = _
      rw [hfl, U_take]
    · have hg' : g = { f with x := x', l := f.l.take N, sure := (f.l.take N).length } := by simpa using hg
      subst hg'
      show (f.l.take N).length = N
      rw [List.length_take]; omega
    · rw [o9 c (fun e => hr (by rw [e]; exact r.fb f hfm)), kk8 c hc hr]

theorem contains_none (d : Nat) {z : S} (hz : aLenSl (Z z) = some (I .i64 0)) (a1 : T) : R (d + 2) 49 [Z z, a1] s = some (B false, s) := by
  have e1 : R (d + 1) 98 [Z z, a1] s = some (I .i64 (-1), s) := by
    rw [f98_run]
    unfold f98
    have lp : loops (f98_l1 (R d) 8192) 8192 [Z z, a1, I .i64 0, I .i64 0] s = some (.exit 0 [], s) := by
      rw [show (8192 : Nat) = 8191 + 1 from rfl, loops]
      have : f98_l1 (R d) (8191 + 1) [Z z, a1, I .i64 0, I .i64 0] s = some (.exit 0 [], s) := by
        unfold f98_l1
        simp
      rw [this]
    simp [hz, lp]
  rw [f49_run]
  unfold f49
  generalize R (d + 1) = r at *
  simp [e1]

theorem id_log (d : Nat) : R (d + 1) 52 [Z (.str LOG)] s = some (I .i64 0, s) := by
  rw [f52_run]
  unfold f52
  have a0 : aAtStr (Z (.str LOG)) (I .i64 0) = some (I .u8 108) := rfl
  simp [a0]
end
end Go.Proofs.YtbohejffelipoaaGreatDoor


/-
  Open, on a disk that has no file but the manifest, whose entries leave no segment. No conditions but those named in each line.
-/
namespace Go.Proofs.YtbohejffelipoaaGreatDoor
open Go Go.Abs Go.Abs.F
set_option linter.unusedVariables false
section
variable {ρ ρ' : Nat → Nat} {s t : St} {D : SBk} {room : Int} {fs fs' : List Fl} {l es : List Ent} {q : FoS} {sure : Nat} {i m : Nat} {e : Ent} {y : S} {v0 v1 : T} {bs : Bs}

theorem olog_read (d : Nat) (h : Dk s i m room fs) (ho : OnlyLog fs bs) (hl : bs.length ≤ 50000) : ∃ y t c, R (d + 3) 42 [Z (.ptr i 0), Z (.str LOG)] s = some (.tup [.s y, .s (.int .i64 c)], t) ∧ Gr s t ∧ RB t y bs ∧ ∀ c, own y = some c → c < t.size := by
  rcases ho with ⟨rfl, rfl⟩ | ⟨f, rfl, hnm, hfl⟩
  · exact ⟨.nils, s, 9, dread_none d h (fun g hg => by cases hg) may_log, Gr.refl h.wf, Rd.nil 1 s, fun c hc => by cases hc⟩
  · obtain ⟨y, t, e1, g, r, o⟩ := dread_run d h (k := 0) (f := f) rfl (by rw [hnm]; exact may_log)
    rw [hnm] at e1
    refine ⟨y, t, 0, e1, g, ?_, fun c hc => (o c hc).2⟩
    rw [hfl] at r
    have : (U bs).length = bs.length := by simp [U]
    unfold RdL at r
    rw [this] at r
    exact r

theorem names_loop (d : Nat) {n : Nat} (v0 v1 z : T) (hd : Dk s i m room fs) (ho : OnlyLog fs bs) : ∃ x k t τ, R (d + 2) 29 [Z (.ptr i 0)] s = some (Z x, t) ∧ aLenSl (Z x) = some (I .i64 k) ∧ Gr s t ∧
    loops (f14_l2 (R (d + 2)) 8192) 8192 [v0, v1, z, Z x, I .i64 k, I .i64 0] t = some (.exit 2 [v1], τ) ∧ Gr t τ := by
  rcases ho with ⟨rfl, rfl⟩ | ⟨f, rfl, hnm, hfl⟩
  · rcases dnames_run (d + 1) hd (fun f hf => by cases hf) (by simp) with ⟨_, e⟩ | ⟨e, _⟩
    · refine ⟨.nils, 0, s, s, e, rfl, Gr.refl hd.wf, ?_, Gr.refl hd.wf⟩
      rw [show (8192 : Nat) = 8191 + 1 from rfl, loops]
      have : f14_l2 (R (d + 2)) (8191 + 1) [v0, v1, z, Z .nils, I .i64 0, I .i64 0] s = some (.exit 2 [v1], s) := by
        unfold f14_l2
        simp
      rw [this]
    · exact absurd rfl e
  · rcases dnames_run (d + 1) hd (fun g hg => by rw [List.mem_singleton] at hg; rw [hg, hnm]; decide) (by simp) with ⟨e, _⟩ | ⟨_, e⟩
    · cases e
    · obtain ⟨t, ht⟩ : ∃ t, t = s.push (.cells false [S.str LOG]) := ⟨_, rfl⟩
      have e' : R (d + 2) 29 [Z (.ptr i 0)] s = some (Z (.sl s.size 0 1 (.grown 1)), t) := by
        rw [ht, ← hnm]; exact e
      have g : Gr s t := by rw [ht]; exact Gr.push hd.wf _
      have hb : t.get s.size = some (.cells false [S.str LOG]) := by rw [ht]; exact St.get_push_same _ _
      have ix : aIndexSl 1 (Z (.sl s.size 0 1 (.grown 1))) (I .i64 0) = some (Z (.ptr s.size 0)) := aIndexSl_int (j := 0) rfl (by omega)
      have ld : aLoad1 (Z (.ptr s.size 0)) t.get = some (Z (.str LOG)) := aLoad1_of hb rfl
      have e2 := id_log (s := t) (d + 1)
      obtain ⟨t1, ht1⟩ : ∃ t1, t1 = t.push (.cells true [.int .i64 0]) := ⟨_, rfl⟩
      have nw : aNew t (nCells [.int .i64 0]) = some (Z (.ptr t.size 0), t1) := by rw [ht1]; rfl
      have g1 : Gr t t1 := by rw [ht1]; exact Gr.push g.wf _
      have b1 : t1.get t.size = some (.cells true [.int .i64 0]) := by rw [ht1]; exact St.get_push_same _ _
      obtain ⟨t2, ht2⟩ : ∃ t2, t2 = t1.set t.size (.cells true [.int .i64 0]) := ⟨_, rfl⟩
      have st : aStore 1 (Z (.ptr t.size 0)) (I .i64 0) t1 = some (tt, t2) := by rw [ht2]; exact aStore1_of b1 (by simp)
      have l2 : aLoad1 (Z (.ptr t.size 0)) t2.get = some (I .i64 0) := aLoad1_of (by rw [ht2]; exact St.get_set_same _ _ _) rfl
      have g2 : Gr t t2 := by
        rw [ht2]
        exact ⟨St.wf_set g1.wf (g1.wf.lt b1) _, by simpa using g1.2.1, fun c hc => by rw [St.get_set_ne _ _ (by omega)]; exact g1.2.2 c hc⟩
      refine ⟨_, 1, t, t2, e', rfl, g, ?_, g2⟩
      have w1 : IntKind.i64.wrap (0 + 1) = 1 := rfl
      have step1 : f14_l2 (R (d + 2)) (8191 + 1) [v0, v1, z, Z (.sl s.size 0 1 (.grown 1)), I .i64 1, I .i64 0] t = some (.normal [v0, v1, z, Z (.sl s.size 0 1 (.grown 1)), I .i64 1, I .i64 1], t2) := by
        unfold f14_l2
        generalize R (d + 2) = r at *
        generalize t.size = ts at *
        simp [ix, ld, e2, nw, st, l2, show ∀ b, gd tt b = some false from fun _ => rfl, show IntKind.i64.wrap 1 = 1 from rfl]
      have step2 : f14_l2 (R (d + 2)) (8190 + 1 + 1) [v0, v1, z, Z (.sl s.size 0 1 (.grown 1)), I .i64 1, I .i64 1] t2 = some (.exit 2 [v1], t2) := by
        unfold f14_l2
        simp
      rw [show (8192 : Nat) = 8190 + 1 + 1 from rfl, loops, step1]
      dsimp only
      rw [loops, step2]

set_option maxHeartbeats 2000000 in
theorem stopen_run (d : Nat) (hd : Dk s i m room fs) (ho : OnlyLog fs bs) (hri : ρ i = 0) (hrm : ρ m = 0) (hrf : ∀ f ∈ fs, ρ f.fb = 0 ∧ ∀ c, own f.x = some c → ρ c = 0) (hbl : bs.length ≤ 7900)
    {N : Nat} (hes : readP bs = (es, N)) (hN : N = (framesB es).length) (hNl : N ≤ bs.length) (htk : bs.take N = framesB es) (hf : foldGo fs0 es = (0, q)) (hql : q.l = []) (hw : ∀ e ∈ es, EWf e) (hl : es.length ≤ 2000) :
    ∃ ρ' D fs' t, R (d + 13) 14 [Z (.ptr i 0)] s = some (.tup [.s (.ptr D.p 0), .s (.int .i64 0)], t) ∧ HasSt ρ' t D room fs' es q es.length ∧ OnlyLog fs' (framesB es) ∧ (∀ f ∈ fs', f.sure = (framesB es).length) ∧ s.size ≤ t.size ∧ (D.i = i ∧ D.m = m) ∧
      (∀ c, c < s.size → ρ' c = ρ c) ∧ ∀ c, c < s.size → 7 ≤ ρ c → t.get c = s.get c := by
  obtain ⟨d1, d2, d3⟩ := hd.lts
  obtain ⟨n, hn⟩ : ∃ n, n = s.size := ⟨_, rfl⟩
  obtain ⟨s1, hs1⟩ : ∃ s1, s1 = s.push (.cells true [.ptr i 0]) := ⟨_, rfl⟩
  have nw1 : aNew s (nBox (Z (.ptr i 0))) = some (Z (.ptr n 0), s1) := by rw [hs1, hn]; rfl
  have g1 : Gr s s1 := by rw [hs1]; exact Gr.push hd.wf _
  have b1 : s1.get n = some (.cells true [.ptr i 0]) := by rw [hs1, hn]; exact St.get_push_same _ _
  have l1 : aLoad1 (Z (.ptr n 0)) s1.get = some (Z (.ptr i 0)) := aLoad1_of b1 rfl
  have z1 : s1.size = s.size + 1 := by rw [hs1]; simp
  have np : eqB .p (Z (.ptr i 0)) (Z .nilp) = some (B false) := rfl
  obtain ⟨b, mp, s3, e3, H3⟩ := begin_run (d + 10) g1.wf
  have g3 : Gr s1 s3 := H3.gr0
  have z3 := g3.2.1
  have hb0 : s1.size ≤ b := Nat.le_of_not_lt fun h => H3.hb h trivial
  have hm0 : s1.size ≤ mp := Nat.le_of_not_lt fun h => H3.hm h trivial
  have hb3 := g3.wf.lt H3.st
  have hm3 := g3.wf.lt H3.mpE
  have hbm := H3.bm
  obtain ⟨p, hp⟩ : ∃ p, p = s3.size := ⟨_, rfl⟩
  obtain ⟨s4, hs4⟩ : ∃ s4, s4 = s3.push (.cells true (cSt i b .nils .nils 0)) := ⟨_, rfl⟩
  have asA : asAggT (aFill [.nilp, .nils, .nils, .nilp, .int .i64 0] [(0, 1, Z (.ptr i 0)), (3, 1, Z (.ptr b 0))]) = some (.v (.agg (cSt i b .nils .nils 0))) := rfl
  have nw4 : aNew s3 (nBox (.v (.agg (cSt i b .nils .nils 0)))) = some (Z (.ptr p 0), s4) := by rw [hs4, hp]; rfl
  have g4 : Gr s3 s4 := by rw [hs4]; exact Gr.push g3.wf _
  have z4 : s4.size = s3.size + 1 := by rw [hs4]; simp
  have p4 : s4.get p = some (.cells true (cSt i b .nils .nils 0)) := by rw [hs4, hp]; exact St.get_push_same _ _
  have b3 := g3.get b1 g1.wf
  have b4 := g4.get b3 g3.wf
  have ck1 : aLoad1 (Z (.ptr n 0)) (overlay 2 s3.get (ovO 3 s3.size (nBox (.v (.agg (cSt i b .nils .nils 0)))) [])) = aLoad1 (Z (.ptr n 0)) s1.get := ov_at b3 b1 rfl fun q j b' hm => by
    rcases ovO_mem hm with rfl | hm
    · omega
    · cases hm
  have l4 : aLoad1 (Z (.ptr n 0)) s4.get = some (Z (.ptr i 0)) := aLoad1_of b4 rfl
  have g04 := (g1.trans g3).trans g4
  obtain ⟨ρ4, hρ4⟩ : ∃ ρ4 : Nat → Nat, ρ4 = fun c => if c < s.size then ρ c else if c = p then 1 else if c = b then 2 else if c = mp then 3 else 9 := ⟨_, rfl⟩
  have ra : ∀ c, c < s.size → ρ4 c = ρ c := fun c hc => by rw [hρ4]; exact if_pos hc
  have rp : ρ4 p = 1 := by rw [hρ4]; dsimp only; rw [if_neg (by omega), if_pos rfl]
  have rb : ρ4 b = 2 := by rw [hρ4]; dsimp only; rw [if_neg (by omega), if_neg (by omega), if_pos rfl]
  have rm : ρ4 mp = 3 := by rw [hρ4]; dsimp only; rw [if_neg (by omega), if_neg (by omega), if_neg (Ne.symm hbm), if_pos rfl]
  have rn : ρ4 n = 9 := by rw [hρ4]; dsimp only; rw [if_neg (by omega), if_neg (by omega), if_neg (by omega), if_neg (by omega)]
  have h4 : HasSt ρ4 s4 ⟨p, i, m, b, mp, .nils, .nils, .nils⟩ room fs [] fs0 0 :=
    ⟨hd.gr g04, p4, Ow.nil 8 s4, Ow.nil 1 s4, (H3.gr' g4).re, ⟨rp, rb, rm, fun c hc => (by cases hc), fun c hc => (by cases hc), fun c hc => (by cases hc), by rw [ra _ d1]; exact hri, by rw [ra _ d2]; exact hrm, fun f hf => by rw [ra _ (d3 f hf).1]; exact (hrf f hf).1, fun f hf c hc => by rw [ra _ ((d3 f hf).2 c hc)]; exact (hrf f hf).2 c hc⟩,
      rfl, fun e he => (by cases he), by simp, Nat.le_refl _⟩
  obtain ⟨y, s5, c5, e5, g5, r5, o5⟩ := olog_read (d + 9) h4.dk ho (by omega)
  obtain ⟨y2, s6, e6, F6⟩ := read_run' (d + 1) g5.wf r5 o5 hbl
  rw [hes] at e6 F6
  have z5 := g5.2.1
  have z6 := F6.gr.2.1
  obtain ⟨ρ6, hρ6⟩ : ∃ ρ6 : Nat → Nat, ρ6 = fun c => if c < s4.size then ρ4 c else 9 := ⟨_, rfl⟩
  have ra6 : ∀ c, c < s4.size → ρ6 c = ρ4 c := fun c hc => by rw [hρ6]; exact if_pos hc
  have h6 : HasSt ρ6 s6 ⟨p, i, m, b, mp, .nils, .nils, .nils⟩ room fs [] fs0 0 := ((h4.rho ra6).gr g5).gr F6.gr
  have ll := F6.rd.lens
  have b6 : s6.get n = some (.cells true [.ptr i 0]) := by rw [F6.gr.2.2 n (by omega), g5.2.2 n (by omega)]; exact b4
  obtain ⟨ρ7, D7, s7, lp7, h7, z7, ⟨hp7, hi7, hm7⟩, ra7, k7⟩ := load_loop (v0 := Z (.ptr n 0)) d h6 F6.rd (fun c hc => ⟨(F6.new c hc).2, by have := (F6.new c hc).1; rw [hρ6]; dsimp only; rw [if_neg (by omega)]; decide⟩) hw hf hl
  dsimp only at hp7 hi7 hm7 lp7
  have rn6 : ρ6 n = 9 := by rw [ra6 n (by omega)]; exact rn
  have b7 : s7.get n = some (.cells true [.ptr i 0]) := by rw [k7 n (by omega) (by rw [rn6]; exact .inr (by decide))]; exact b6
  have l7 : aLoad1 (Z (.ptr n 0)) s7.get = some (Z (.ptr i 0)) := aLoad1_of b7 rfl
  have st7 := h7.st
  rw [hp7] at st7
  have q71 : aLoad1 (Z (.ptr p 1)) s7.get = some (Z D7.lx) := aLoad1_of st7 rfl
  have ll7 := h7.le.rd.lens
  have e8 := place_run (d + 11) (l := es) st7 h7.en.rd (Nat.le_refl _) (by omega)
  rw [placeL_all, ← hN] at e8
  obtain ⟨ρ9, fs9, s8, s9, c1, c2, e9, e10, h9, ho9, hs9, z8, z9, ra9, k9⟩ := cutsync (d + 9) h7 ho hNl
  rw [hi7] at e9 e10
  rw [htk] at ho9
  have rn7 : ρ7 n = 9 := by rw [ra7 n (by omega)]; exact rn6
  have b8 : s8.get n = some (.cells true [.ptr i 0]) := by rw [(k9 n (by omega) (by rw [rn7]; decide)).1]; exact b7
  have b9 : s9.get n = some (.cells true [.ptr i 0]) := by rw [(k9 n (by omega) (by rw [rn7]; decide)).2]; exact b7
  have l8 : aLoad1 (Z (.ptr n 0)) s8.get = some (Z (.ptr i 0)) := aLoad1_of b8 rfl
  have st9 := h9.st
  rw [hp7] at st9
  have q91 : aLoad1 (Z (.ptr p 1)) s9.get = some (Z D7.lx) := aLoad1_of st9 rfl
  have h10 := h9.setSure (Nat.le_refl es.length)
  obtain ⟨s10, hs10⟩ : ∃ s10, s10 = s9.set D7.p (.cells true (cSt D7.i D7.b D7.lx D7.ex es.length)) := ⟨_, rfl⟩
  rw [← hs10] at h10
  have sS : aStore 1 (Z (.ptr p 4)) (I .i64 (es.length : Nat)) s9 = some (tt, s10) := by rw [hs10, hp7]; exact aStore1_of st9 (by simp)
  have z10 : s10.size = s9.size := by rw [hs10]; simp
  have st10 := h10.st
  rw [hp7] at st10
  have q103 : aLoad1 (Z (.ptr p 3)) s10.get = some (Z (.ptr D7.b 0)) := aLoad1_of st10 rfl
  have hpn : n ≠ D7.p := by rw [hp7]; omega
  have b10 : s10.get n = some (.cells true [.ptr i 0]) := by rw [hs10, St.get_set_ne _ _ hpn]; exact b9
  obtain ⟨z, s11, e11, F11⟩ := infos_run (d + 10) h10.hf (by rw [hql]; decide)
  have lz := F11.rd.lens
  rw [hql] at lz
  have e12 := contains_none (s := s11) (d + 10) (z := z) lz (Z (.clo 50 [(n, 0)]))
  have h11 := h10.gr F11.gr
  have b11 := F11.gr.get b10 h10.swf
  have l11 : aLoad1 (Z (.ptr n 0)) s11.get = some (Z (.ptr i 0)) := aLoad1_of b11 rfl
  have cl : aClo 50 [Z (.ptr n 0)] [] = some (Z (.clo 50 [(n, 0)])) := rfl
  have hd11 := h11.dk
  rw [hi7, hm7] at hd11
  obtain ⟨x, k, s12, s13, e13, lx, g12, lp13, g13⟩ := names_loop (n := 0) (d + 10) (Z (.ptr n 0)) (Z (.ptr p 0)) (Z z) hd11 ho9
  have gend := g12.trans g13
  have hend := h11.gr gend
  refine ⟨ρ9, D7, fs9, s13, ?_, hend, ho9, fun f hf => by rw [hs9 f hf, hN], ?_, ⟨hi7, hm7⟩, fun c hc => ?_, fun c hc hr => ?_⟩
  · rw [f14_run]
    unfold f14
    rw [show LOG = [108, 111, 103] from rfl] at e5 e9 e10
    simp only [Nat.add_assoc, Nat.reduceAdd] at e3 e5 e6 e8 e9 e10 e11 e12 e13 lp13
    rw [hp7]
    generalize R (d + 12) = rr at *
    generalize ((es.length : Nat) : Int) = LL at *
    generalize ((N : Nat) : Int) = NN at *
    simp [nw1, l1, np, e3, asA, nw4, ck1, l4, e5, aExtract, e6, ll, lp7, l7, q71, ll7, e8, e9, l8, e10, q91, sS, q103, e11, cl, e12, l11, e13, lx, lp13, retT, allV]
  · have a := g04.2.1; have a2 := F11.gr.2.1; have a3 := gend.2.1
    omega
  · rw [ra9 c (by have := g04.2.1; omega), ra7 c (by have := g04.2.1; omega), ra6 c (by have := g04.2.1; omega), ra c hc]
  · have hc4 : c < s4.size := by have := g04.2.1; omega
    have h6c : ρ6 c = ρ c := by rw [ra6 c hc4, ra c hc]
    have h7c : ρ7 c = ρ c := by rw [ra7 c (by omega), h6c]
    have hcp : c ≠ D7.p := by rw [hp7]; omega
    rw [gend.2.2 c (by have := F11.gr.2.1; omega), F11.gr.2.2 c (by omega), hs10, St.get_set_ne _ _ hcp, (k9 c (by omega) (by omega)).2, k7 c (by omega) (by rw [h6c]; exact .inr hr), F6.gr.2.2 c (by omega), g5.2.2 c hc4, g04.2.2 c hc]
end
end Go.Proofs.YtbohejffelipoaaGreatDoor


/-
  The rows of the laws: what Rows computes, in any store. No conditions but those named in each line.
-/
namespace Go.Proofs.YtbohejffelipoaaGreatDoor
open Go Go.Abs Go.Abs.F
set_option linter.unusedVariables false

structure RowSt where
  out : List Ent
  there : List Nat
  view : Nat
  id : Nat
  at_ : Nat

def sealB (n : Nat) : Bs := [115, 101, 97, 108, 32] ++ (if n = 0 then [49] else if n = 1 then [57] else [51, 51])

def rowStep (σ : RowSt) (k : Nat) : RowSt :=
  if k % 8 = 7 then { σ with out := σ.out ++ [{ ent0 with k := 3, v := (σ.view + 1 : Nat) }], view := σ.view + 1 }
  else if k % 8 = 6 then { σ with out := σ.out ++ [{ ent0 with k := 4, v := (σ.view : Nat), x := sealB (k / 8 % 3) }] }
  else if 3 < k % 8 ∧ 0 < σ.there.length then
    { σ with out := σ.out ++ [{ ent0 with k := 2, v := (σ.view : Nat), i := (σ.there.getD (k / 8 % σ.there.length) 0 : Nat) }],
             there := σ.there.take (k / 8 % σ.there.length) ++ σ.there.drop (k / 8 % σ.there.length + 1) }
  else { out := σ.out ++ [{ k := 1, v := (σ.view : Nat), i := (σ.id + 1 : Nat), t := (k / 8 % 4 : Nat), f := (σ.at_ : Nat), o := (σ.at_ + 1 + k / 8 % 30 : Nat), u := (k % 4294967296 : Nat), x := [] }],
         there := σ.there ++ [σ.id + 1], view := σ.view, id := σ.id + 1, at_ := σ.at_ + 1 + k / 8 % 30 }

def rowK (v : Int) : Nat := (IntKind.u64.wrap v).toNat
abbrev N64 (vs : List Nat) : List S := vs.map fun n : Nat => S.int .i64 (n : Int)

section
variable {s t : St} {x y : S} {bs cs : Bs} {i : Nat} {l m : List Ent} {e n : Nat} {vs : List S}

theorem Fr_other {s0 : St} (h : Fr e s0 s x n vs) (g : Gr s0 t) (hz : s.size ≤ t.size) (hk : ∀ c, own x = some c → t.get c = s.get c) : Fr e s0 t x n vs :=
  ⟨g, h.ow.keep hk, fun c hc => ⟨(h.new c hc).1, Nat.lt_of_lt_of_le (h.new c hc).2 hz⟩⟩

theorem FE.lit' {s0 : St} {e : Ent} (h : FE s0 s x l) (hl : l.length ≤ 1000000) :
    ∃ x' t s', aNew s (nSlice 1 (aFill [.int .i64 0, .int .i64 0, .int .i64 0, .int .i64 0, .int .i64 0, .int .i64 0, .int .u32 0, .str []] [(0, 8, AE e)])) = some (Z (.sl s.size 0 1 (.known 1)), s') ∧ aAppend 8 72 (Z x) (Z (.sl s.size 0 1 (.known 1))) s' = some (Z x', t) ∧ FE s0 t x' (l ++ [e]) ∧ s.size ≤ t.size ∧
      (∀ b, b < s.size → own x ≠ some b → t.get b = s.get b) ∧ (own x' = none ∨ own x' = own x ∨ ∃ c, own x' = some c ∧ s.size ≤ c) := by
  have L := Fr.lit 8 h.gr.1 (n := 1) (vs := cells cE [e]) (by simp [cE])
  obtain ⟨x', t, e1, f, hz, k, o⟩ := (h.gr' L.gr).append' (by_ := 72) (by omega) L.rd.src (by simp [cE]) (by omega)
  refine ⟨x', t, _, rfl, e1, ?_, Nat.le_trans L.gr.2.1 hz, fun b hb ho => ?_, ?_⟩
  · unfold FE
    rw [cells_append, List.length_append]
    exact f
  · rw [k b (Nat.lt_of_lt_of_le hb L.gr.2.1) ho, L.gr.2.2 b hb]
  · rcases o with h | h | ⟨c, h, h'⟩
    · exact .inl h
    · exact .inr (.inl h)
    · exact .inr (.inr ⟨c, h, Nat.le_trans L.gr.2.1 h'⟩)

structure Both (s0 s : St) (o y : S) (l : List Ent) (ns : List Nat) : Prop where
  out : FE s0 s o l
  there : Fr 1 s0 s y ns.length (N64 ns)
  ne : ∀ c, own o = some c → own y ≠ some c

theorem Both.lit {s0 : St} {o : S} {ns : List Nat} {e : Ent} (h : Both s0 s o y l ns) (hl : l.length ≤ 1000000) :
    ∃ x' t s', aNew s (nSlice 1 (aFill [.int .i64 0, .int .i64 0, .int .i64 0, .int .i64 0, .int .i64 0, .int .i64 0, .int .u32 0, .str []] [(0, 8, AE e)])) = some (Z (.sl s.size 0 1 (.known 1)), s') ∧ aAppend 8 72 (Z o) (Z (.sl s.size 0 1 (.known 1))) s' = some (Z x', t) ∧ Both s0 t x' y (l ++ [e]) ns := by
  obtain ⟨x', t, s', e1, e2, f, hz, hk, ho⟩ := FE.lit' (e := e) h.out hl
  refine ⟨x', t, s', e1, e2, f, Fr_other h.there f.gr hz fun c hc => hk c (h.there.new c hc).2 fun hh => h.ne c hh hc, fun c hc hy => ?_⟩
  rcases ho with h1 | h1 | ⟨c', h1, h2⟩
  · rw [h1] at hc; cases hc
  · rw [h1] at hc; exact h.ne c hc hy
  · rw [h1] at hc
    cases hc
    have := (h.there.new c hy).2
    omega

theorem Both.app {s0 : St} {o z : S} {ns ms ks : List Nat} (h : Both s0 s o y l ns) (hy : Fr 1 s0 s x ks.length (N64 ks)) (hox : own x = own y) (hz : aSrc 1 (Z z) s.get = some (ms.length, N64 ms)) (hl : (ks.length + ms.length) * 8 ≤ 140737488355328) :
    ∃ y' t, aAppend 1 8 (Z x) (Z z) s = some (Z y', t) ∧ Both s0 t o y' l (ks ++ ms) := by
  obtain ⟨y', t, e1, f, hzz, hk, ho⟩ := hy.append' (by_ := 8) (by omega) hz (by simp) hl
  refine ⟨y', t, e1, Fr_other h.out f.gr hzz fun c hc => hk c (h.out.new c hc).2 fun hh => h.ne c hc (by rw [← hox]; exact hh), ?_, fun c hc hy' => ?_⟩
  · rw [List.length_append]
    have : N64 (ks ++ ms) = N64 ks ++ N64 ms := by simp [N64]
    rw [this]
    exact f
  · rcases ho with h1 | h1 | ⟨c', h1, h2⟩
    · rw [h1] at hy'; cases hy'
    · rw [h1, hox] at hy'; exact h.ne c hc hy'
    · rw [h1] at hy'
      cases hy'
      have := (h.out.new c hc).2
      omega

theorem rem_nat (k : IntKind) (a b : Nat) (h : 0 < b) : aBin .rem (I k a) (I k b) = some (I k ((a % b : Nat))) := by
  rw [rem_int _ _ _ (by omega)]; rfl
theorem quo_nat (k : IntKind) (a b : Nat) (h : 0 < b) (hw : k.wrap ((a / b : Nat) : Int) = ((a / b : Nat) : Int)) : aBin .quo (I k a) (I k b) = some (I k ((a / b : Nat))) := by
  rw [quo_int _ _ _ (by omega)]
  have : Int.tdiv (a : Int) (b : Int) = ((a / b : Nat) : Int) := rfl
  rw [this, hw]

theorem rowK_eq (v : Int) : IntKind.u64.wrap v = ((rowK v : Nat) : Int) := (Int.toNat_of_nonneg (wrap_u64 v)).symm
theorem rowK_lt (v : Int) : rowK v < 2 ^ 64 := by
  have : IntKind.u64.wrap v < 2 ^ 64 := by
    unfold IntKind.wrap
    simp [IntKind.signed, IntKind.bits]
    omega
  rw [rowK_eq] at this
  omega

structure RowOk (σ : RowSt) (n : Nat) : Prop where
  out : σ.out.length = n
  there : σ.there.length ≤ n
  view : σ.view ≤ n
  id : σ.id ≤ n
  at_ : σ.at_ ≤ 30 * n

theorem RowOk.step {σ : RowSt} {n : Nat} (h : RowOk σ n) (k : Nat) : RowOk (rowStep σ k) (n + 1) := by
  obtain ⟨h1, h2, h3, h4, h5⟩ := h
  unfold rowStep
  split
  · exact ⟨by simp [h1], by show σ.there.length ≤ _; omega, by show σ.view + 1 ≤ _; omega, by show σ.id ≤ _; omega, by show σ.at_ ≤ _; omega⟩
  · split
    · exact ⟨by simp [h1], by show σ.there.length ≤ _; omega, by show σ.view ≤ _; omega, by show σ.id ≤ _; omega, by show σ.at_ ≤ _; omega⟩
    · split
      · exact ⟨by simp [h1], by simp; omega, by show σ.view ≤ _; omega, by show σ.id ≤ _; omega, by show σ.at_ ≤ _; omega⟩
      · exact ⟨by simp [h1], by simp; omega, by show σ.view ≤ _; omega, by show σ.id + 1 ≤ _; omega, by show σ.at_ + 1 + k / 8 % 30 ≤ _; have := Nat.mod_lt (k / 8) (show 0 < 30 by decide); omega⟩

end

/-! ### Rows may be -/

theorem seal_ok : ∀ n, n < 3 → (parseP (sealB n)).2.1 = 0 := by decide +kernel

structure RowMay (σ : RowSt) (n : Nat) : Prop where
  ok : RowOk σ n
  may : σ.out.all mayE = true
  wf : ∀ e ∈ σ.out, EWf e
  there : ∀ k ∈ σ.there, 1 ≤ k ∧ k ≤ n

theorem may3 (v : Nat) (h : 0 < v) (k : v ≤ 1000) : mayE { ent0 with k := 3, v := (v : Nat) } = true := by
  unfold mayE
  rw [if_neg (by simp only; omega)]
  simp [ent0]
  omega
theorem may4 (v n : Nat) (k : v ≤ 1000) (hn : n < 3) : mayE { ent0 with k := 4, v := (v : Nat), x := sealB n } = true := by
  unfold mayE
  rw [if_neg (by simp only; omega)]
  have h1 := seal_ok n hn
  have h2 : (sealB n).length ≤ 300 := by unfold sealB; split <;> (try split) <;> simp
  simp [ent0, h1, h2]
theorem may2 (v i : Nat) (k : v ≤ 1000) (h1 : 1 ≤ i) (h2 : i ≤ 1000) : mayE { ent0 with k := 2, v := (v : Nat), i := (i : Nat) } = true := by
  unfold mayE
  rw [if_neg (by simp only; omega)]
  simp [ent0, idOk]
  omega
theorem may1 (v i t f o u : Nat) (k : v ≤ 1000) (h1 : 1 ≤ i) (h2 : i ≤ 1000) (h3 : t < 4) (h4 : f < o) (h5 : o ≤ 100000) : mayE { k := 1, v := (v : Nat), i := (i : Nat), t := (t : Nat), f := (f : Nat), o := (o : Nat), u := (u : Nat), x := [] } = true := by
  unfold mayE
  rw [if_neg (by simp only; omega)]
  simp [idOk]
  omega

theorem RowMay.step {σ : RowSt} {n : Nat} (h : RowMay σ n) (hn : n < 40) (k : Nat) : RowMay (rowStep σ k) (n + 1) := by
  have ok := h.ok.step k
  obtain ⟨⟨h1, h2, h3, h4, h5⟩, may, wf, there⟩ := h
  have all : ∀ {l : List Ent} {e : Ent}, l.all mayE = true → mayE e = true → (l ++ [e]).all mayE = true := fun a b => by simp only [List.all_append, a, List.all_cons, b, List.all_nil]; rfl
  have wfs : ∀ {l : List Ent} {e : Ent}, (∀ x ∈ l, EWf x) → EWf e → ∀ x ∈ l ++ [e], EWf x := fun a b x hx => by
    rcases List.mem_append.1 hx with h | h
    · exact a x h
    · rw [List.mem_singleton.1 h]; exact b
  have main : (rowStep σ k).out.all mayE = true ∧ (∀ e ∈ (rowStep σ k).out, EWf e) ∧ ∀ i ∈ (rowStep σ k).there, 1 ≤ i ∧ i ≤ n + 1 := by
   unfold rowStep
   split
   · exact ⟨all may (may3 _ (by omega) (by omega)), wfs wf ⟨by simp [ent0], by simp [ent0]⟩, fun x hx => by have := there x hx; omega⟩
   · split
     · exact ⟨all may (may4 _ _ (by omega) (Nat.mod_lt _ (by decide))), wfs wf ⟨by simp [ent0], by simp [ent0]⟩, fun x hx => by have := there x hx; omega⟩
     · split
       · rename_i hc
         have hj : k / 8 % σ.there.length < σ.there.length := Nat.mod_lt _ hc.2
         have hm := there _ (List.getElem_mem hj)
         refine ⟨all may (may2 _ _ (by omega) ?_ ?_), wfs wf ⟨by simp [ent0], by simp [ent0]⟩, fun x hx => ?_⟩
         · rw [List.getD_eq_getElem?_getD, List.getElem?_eq_getElem hj, Option.getD_some]; exact hm.1
         · rw [List.getD_eq_getElem?_getD, List.getElem?_eq_getElem hj, Option.getD_some]; omega
         · have : x ∈ σ.there := by
             rcases List.mem_append.1 hx with h | h
             · exact List.mem_of_mem_take h
             · exact List.mem_of_mem_drop h
           have := there x this
           omega
       · have l3 : k / 8 % 30 < 30 := Nat.mod_lt _ (by decide)
         refine ⟨all may (may1 _ _ _ _ _ _ (by omega) (by omega) (by omega) (Nat.mod_lt _ (by decide)) (by omega) (by omega)), wfs wf ⟨by simp only; omega, by simp only; omega⟩, fun x hx => ?_⟩
         rcases List.mem_append.1 hx with h | h
         · have := there x h; omega
         · rw [List.mem_singleton.1 h]; omega
  exact ⟨ok, main.1, main.2.1, main.2.2⟩

end Go.Proofs.YtbohejffelipoaaGreatDoor


/-
  StoreRules: the steps of the law. No conditions but those named in each line.
-/
namespace Go.Proofs.YtbohejffelipoaaGreatDoor
open Go Go.Abs Go.Abs.F
set_option linter.unusedVariables false

def digs : Bs := [48, 49, 50, 51, 52, 53, 54, 55, 56, 57]
theorem digit_at : ∀ m, m < 10 → (digs.drop m).take 1 = [UInt8.ofNat (48 + m)] := by decide
def kOfV (v : Int) : Nat := 1 + rowK v % 64
theorem kOfV_rng (v : Int) : 1 ≤ kOfV v ∧ kOfV v ≤ 64 := by
  have := Nat.mod_lt (rowK v) (show 0 < 64 by decide)
  unfold kOfV
  omega

theorem digit_run {m : Nat} (h : m < 10) : aPieceStr (Z (.str digs)) (some (I .i64 (m : Nat))) (some (I .i64 ((m + 1 : Nat) : Int))) none = some (Z (.str [UInt8.ofNat (48 + m)])) := by
  rw [aPieceStr_lh (lo := m) (hi := m + 1) rfl rfl (by omega) (by show m + 1 ≤ 10; omega)]
  have : m + 1 - m = 1 := by omega
  rw [this, digit_at m h]

section
variable {fs fs' : List Fl} {bs cs : Bs} {l : List Ent} {sure : Nat}

theorem OnlyLog.tot (h : OnlyLog fs bs) : tot fs = bs.length := by
  rcases h with ⟨rfl, rfl⟩ | ⟨f, rfl, _, hl⟩
  · rfl
  · simp [Go.Proofs.YtbohejffelipoaaGreatDoor.tot, hl, U]

theorem OnlyLog.nice (h : OnlyLog fs bs) : Nice fs := by
  rcases h with ⟨rfl, rfl⟩ | ⟨f, rfl, hn, hl⟩
  · exact ⟨fun f hf => (by cases hf), by simp⟩
  · exact ⟨fun g hg => by rw [List.mem_singleton] at hg; rw [hg, hn]; decide, by simp⟩

theorem OnlyLog.grown (h : OnlyLog fs bs) (g : Grown fs fs' cs) : OnlyLog fs' (bs ++ cs) := by
  have hU : ∀ a b : Bs, U a ++ U b = U (a ++ b) := fun a b => by simp [U]
  rcases h with ⟨rfl, rfl⟩ | ⟨f, rfl, hn, hl⟩
  · rcases g with ⟨k, f, x, hk, _⟩ | ⟨_, fb, x, rfl⟩
    · simp at hk
    · exact .inr ⟨_, rfl, rfl, rfl⟩
  · rcases g with ⟨k, f', x, hk, _, rfl⟩ | ⟨hno, _⟩
    · have hk0 : k = 0 := by
        have := (List.getElem?_eq_some_iff.1 hk).1
        simp at this
        omega
      subst hk0
      simp at hk
      subst hk
      exact .inr ⟨_, rfl, hn, by show f.l ++ U cs = _; rw [hl, hU]⟩
    · exact absurd hn (hno f (by simp))

theorem OnlyLog.synced (h : OnlyLog fs bs) (g : Synced fs fs') : OnlyLog fs' bs := by
  rcases h with ⟨rfl, rfl⟩ | ⟨f, rfl, hn, hl⟩
  · rcases g with ⟨k, f, hk, _⟩ | ⟨_, rfl⟩
    · simp at hk
    · exact .inl ⟨rfl, rfl⟩
  · rcases g with ⟨k, f', hk, _, rfl⟩ | ⟨hno, _⟩
    · have hk0 : k = 0 := by
        have := (List.getElem?_eq_some_iff.1 hk).1
        simp at this
        omega
      subst hk0
      simp at hk
      subst hk
      exact .inr ⟨_, rfl, hn, hl⟩
    · exact absurd hn (hno f (by simp))

theorem OnlyLog.log (h : OnlyLog fs (framesB l)) (hs : ∀ f ∈ fs, f.sure = placeL l sure) (hz : fs = [] → l = [] ∧ sure = 0) : LogIs fs l sure := by
  rcases h with ⟨rfl, _⟩ | ⟨f, rfl, hn, hl⟩
  · exact .inr ⟨fun f hf => (by cases hf), hz rfl⟩
  · exact .inl ⟨0, f, rfl, hn, hl, hs f (by simp)⟩
end
end Go.Proofs.YtbohejffelipoaaGreatDoor


/-
  StoreRules: the law's loop. No conditions but those named in each line.
-/
namespace Go.Proofs.YtbohejffelipoaaGreatDoor
open Go Go.Abs Go.Abs.F
set_option linter.unusedVariables false

theorem placeL_mono (l : List Ent) {i j : Nat} (h : i ≤ j) : placeL l i ≤ placeL l j := by
  unfold placeL
  have : l.take j = l.take i ++ (l.take j).drop i := by
    have h1 := (List.take_append_drop i (l.take j)).symm
    rwa [List.take_take, Nat.min_eq_left h] at h1
  rw [this, framesB_append, List.length_append]
  omega

theorem placeL_lt (l : List Ent) {i j : Nat} (h : i < j) (hj : j ≤ l.length) : placeL l i < placeL l j := by
  have h1 := placeL_mono l (i := i + 1) (j := j) h
  have h2 : placeL l i < placeL l (i + 1) := by
    unfold placeL
    have hi : i < l.length := by omega
    rw [List.take_add_one, List.getElem?_eq_getElem hi, framesB_append, List.length_append]
    simp [framesB, wrapB, four]
    omega
  omega

structure RInv (s0 : St) (x : S) (D : SBk) (u : St) (cx : S) (sure : Nat) (ks : List Nat) (ρ : Nat → Nat) (B : SBk) (fs : List Fl) : Prop where
  st : HasSt ρ u B 10000 fs (ks.map ruleE) (rulesFS ks) sure
  ol : OnlyLog fs (framesB (ks.map ruleE))
  lg : LogIs fs (ks.map ruleE) sure
  cn : Ow 1 u cx ks.length (ks.map fun k : Nat => S.int .i64 (k : Int))
  cr : ∀ c, own cx = some c → ρ c = 9 ∧ s0.size ≤ c
  gr : s0.size ≤ u.size
  ro : ∀ c, c < s0.size → ρ c = 9
  kp : ∀ c, c < s0.size → u.get c = s0.get c
  bl : B.p = D.p ∧ B.i = D.i ∧ B.m = D.m
  rg : ∀ k ∈ ks, 1 ≤ k ∧ k ≤ 64

section
variable {ρ ρ' : Nat → Nat} {s0 s t u : St} {D E : SBk} {room : Int} {fs fs' : List Fl} {l es : List Ent} {q : FoS} {sure : Nat} {i m : Nat} {e : Ent} {y x cx : S} {v0 v1 : T} {bs : Bs} {ks : List Nat} {is : List Int}

set_option maxHeartbeats 4000000 in
theorem rules_step (d : Nat) (h : RInv s0 x D u cx sure ks ρ E fs) (hx : Rd 1 s0 x is.length (is.map (S.int .i64))) (hxl : ∀ c, own x = some c → c < s0.size) {v keep : Int} (hv : is[ks.length]? = some v) (hk : ks.length < 10) :
    ∃ u' cx' sure' ρ' B' fs', f6_l1 (R (d + 14)) 8192 [Z x, I .i64 keep, Z (.ptr D.i 0), Z (.ptr D.p 0), Z cx, I .i64 (sure : Nat), I .i64 (ks.length : Nat)] u =
      some (.normal [Z x, I .i64 keep, Z (.ptr D.i 0), Z (.ptr D.p 0), Z cx', I .i64 (sure' : Nat), I .i64 ((ks ++ [kOfV v]).length : Nat)], u') ∧ RInv s0 x D u' cx' sure' (ks ++ [kOfV v]) ρ' B' fs' := by
  obtain ⟨hst, hol, hlg, hcn, hcr, hgr, hro, hkp, ⟨hbp, hbi, hbm⟩, hrg⟩ := h
  obtain ⟨K, hK⟩ : ∃ K, K = kOfV v := ⟨_, rfl⟩
  obtain ⟨hK1, hK2⟩ : 1 ≤ K ∧ K ≤ 64 := by rw [hK]; exact kOfV_rng v
  have hlt : ks.length < is.length := (List.getElem?_eq_some_iff.1 hv).1
  have hKd : K = 1 + rowK v % 64 := hK
  have wf := hst.swf
  have hxu : Rd 1 u x is.length (is.map (S.int .i64)) := hx.keep fun c hc => hkp c (hxl c hc)
  have hvv : (is.map (S.int .i64))[ks.length]? = some (S.int .i64 v) := by rw [List.getElem?_map, hv]; rfl
  have lx := hxu.lens
  obtain ⟨P, ix, ld⟩ := hxu.at1 (i := ((ks.length : Nat) : Int)) (j := ks.length) rfl hvv
  have c0 : ((ks.length : Nat) : Int) < ((is.length : Nat) : Int) := by omega
  have c00 : ((ks.length : Nat) : Int) < 10 := by omega
  have c1 : aConv .u64 (I .i64 v) = some (I .u64 (rowK v : Nat)) := by rw [aConv_int, rowK_eq]
  have hM := Nat.mod_lt (rowK v) (show 0 < 64 by decide)
  have hR := rowK_lt v
  have r1 : aBin .rem (I .u64 (rowK v : Nat)) (I .u64 64) = some (I .u64 ((rowK v % 64 : Nat))) := rem_nat .u64 _ 64 (by decide)
  have c3 : aConv .i64 (I .u64 ((rowK v % 64 : Nat) : Int)) = some (I .i64 ((rowK v % 64 : Nat) : Int)) := by rw [aConv_int, wrapi _ (by omega)]
  have a1 : aBin .add (I .i64 1) (I .i64 ((rowK v % 64 : Nat) : Int)) = some (I .i64 (K : Nat)) := by rw [add_int, wrap_in _ (by omega) (by omega), hKd]; rfl
  have q1 : aBin .quo (I .i64 ((K : Nat) : Int)) (I .i64 10) = some (I .i64 ((K / 10 : Nat) : Int)) := quo_nat .i64 K 10 (by decide) (wrapi _ (by omega))
  have r2 : aBin .rem (I .i64 ((K : Nat) : Int)) (I .i64 10) = some (I .i64 ((K % 10 : Nat) : Int)) := rem_nat .i64 K 10 (by decide)
  have a2 : aBin .add (I .i64 ((K / 10 : Nat) : Int)) (I .i64 1) = some (I .i64 ((K / 10 + 1 : Nat) : Int)) := by rw [add_int, wrap_in _ (by omega) (by omega)]; rfl
  have a3 : aBin .add (I .i64 ((K % 10 : Nat) : Int)) (I .i64 1) = some (I .i64 ((K % 10 + 1 : Nat) : Int)) := by rw [add_int, wrap_in _ (by omega) (by omega)]; rfl
  have p1 : aPieceStr (Z (.str [48, 49, 50, 51, 52, 53, 54, 55, 56, 57])) (some (I .i64 ((K / 10 : Nat) : Int))) (some (I .i64 ((K / 10 + 1 : Nat) : Int))) none = some (Z (.str [UInt8.ofNat (48 + K / 10)])) := digit_run (m := K / 10) (by omega)
  have p2 : aPieceStr (Z (.str [48, 49, 50, 51, 52, 53, 54, 55, 56, 57])) (some (I .i64 ((K % 10 : Nat) : Int))) (some (I .i64 ((K % 10 + 1 : Nat) : Int))) none = some (Z (.str [UInt8.ofNat (48 + K % 10)])) := digit_run (m := K % 10) (by omega)
  have t1 := str_add [115, 101, 97, 108, 32] [UInt8.ofNat (48 + K / 10)] (by simp)
  have t2 := str_add ([115, 101, 97, 108, 32] ++ [UInt8.ofNat (48 + K / 10)]) [UInt8.ofNat (48 + K % 10)] (by simp)
  have ts : ([115, 101, 97, 108, 32] ++ [UInt8.ofNat (48 + K / 10)]) ++ [UInt8.ofNat (48 + K % 10)] = sealK K := rfl
  rw [ts] at t2
  have ag : asAggT (aFill [.int .i64 0, .int .i64 0, .int .i64 0, .int .i64 0, .int .i64 0, .int .i64 0, .int .u32 0, .str []] [(0, 1, (I .i64 4)), (7, 1, Z (.str (sealK K)))]) = some (AE (ruleE K)) := rfl
  have hall := hst.ok.1
  have hfl := framesB_len _ hall
  have hfw := wrapB_len (putB (ruleE K))
  have hpl := mayE_len (rule_ok hK1 hK2).1
  have htot := hol.tot
  rw [List.length_map] at hfl
  obtain ⟨ρ1, B1, fs1, u1, e1, h1, lg1, gw1, z1, ⟨bp1, bi1, bm1⟩, ra1, k1⟩ := put_run' d hst hlg hol.nice (by rw [htot]; omega) (by omega) (rules_asks ks hK1 hK2) (rule_wf K) (by rw [List.length_map]; omega) (show (4 : Int) ≠ 1 by decide) (show (4 : Int) ≠ 2 by decide)
  have hks : ks.map ruleE ++ [ruleE K] = (ks ++ [K]).map ruleE := by simp
  rw [rules_next, hks] at h1
  rw [hks] at lg1
  have ol1 : OnlyLog fs1 (framesB ((ks ++ [K]).map ruleE)) := by
    have := hol.grown gw1
    rwa [← framesB_snoc, hks] at this
  rw [hbp] at e1
  have hrk : ∀ c, own cx = some c → c < u.size ∧ 7 ≤ ρ c := fun c hc => ⟨hcn.lt wf hc, by rw [(hcr c hc).1]; decide⟩
  have cn1 : Ow 1 u1 cx ks.length (ks.map fun k : Nat => S.int .i64 (k : Int)) := hcn.keep fun c hc => k1 c (hrk c hc).1 (hrk c hc).2
  have kp1 : ∀ c, c < s0.size → u1.get c = s0.get c := fun c hc => by rw [k1 c (by omega) (by rw [hro c hc]; decide), hkp c hc]
  have L2 := Fr.lit 1 h1.swf (n := 1) (vs := [.int .i64 (K : Int)]) rfl
  obtain ⟨u2, hu2⟩ : ∃ u2, u2 = u1.push (.cells true [.int .i64 (K : Int)]) := ⟨_, rfl⟩
  rw [← hu2] at L2
  have nw2 : aNew u1 (nSlice 1 (aFill [.int .i64 0] [(0, 1, I .i64 (K : Int))])) = some (Z (.sl u1.size 0 1 (.known 1)), u2) := by rw [hu2]; simp [aNew, nSlice, aFill, V.cells, setRange]
  have z2 : u2.size = u1.size + 1 := by rw [hu2]; simp
  obtain ⟨cx', u3, ap3, wf3, z3, cn3, old3, new3⟩ := (cn1.gr h1.swf L2.gr).append (by_ := 8) L2.gr.wf (by omega) L2.rd.src rfl (by omega)
  have kk3 : ∀ c, c < u1.size → own cx ≠ some c → u3.get c = u1.get c := fun c hc hx => by rw [old3 c (by omega) hx, L2.gr.2.2 c hc]
  obtain ⟨ρ3, hρ3⟩ : ∃ ρ3 : Nat → Nat, ρ3 = fun c => if c < u1.size then ρ1 c else 9 := ⟨_, rfl⟩
  have ra3 : ∀ c, c < u1.size → ρ3 c = ρ1 c := fun c hc => by rw [hρ3]; exact if_pos hc
  have rb3 : ∀ c, u1.size ≤ c → ρ3 c = 9 := fun c hc => by rw [hρ3]; exact if_neg (by omega)
  have h3 : HasSt ρ3 u3 B1 10000 fs1 ((ks ++ [K]).map ruleE) (rulesFS (ks ++ [K])) sure := (h1.rho ra3).keep wf3 (by omega) fun c hc hr => kk3 c hc fun hx => by
    have := hcr c hx
    rw [ra3 c hc, ra1 c (hrk c hx).1, this.1] at hr
    omega
  have kp3 : ∀ c, c < s0.size → u3.get c = s0.get c := fun c hc => by rw [kk3 c (by omega) (fun hx => by have := (hcr c hx).2; omega), kp1 c hc]
  have cr3 : ∀ c, own cx' = some c → ρ3 c = 9 ∧ s0.size ≤ c := fun c hc => by
    rcases new3 with e | e | ⟨c', e, hc'⟩
    · rw [e] at hc; cases hc
    · rw [e] at hc
      have := hrk c hc
      rw [ra3 c (by omega), ra1 c this.1]
      exact hcr c hc
    · rw [e] at hc; cases hc
      exact ⟨rb3 _ (by omega), by omega⟩
  have ro3 : ∀ c, c < s0.size → ρ3 c = 9 := fun c hc => by rw [ra3 c (by omega), ra1 c (by omega), hro c hc]
  have hxu3 : Rd 1 u3 x is.length (is.map (S.int .i64)) := hx.keep fun c hc => kp3 c (hxl c hc)
  obtain ⟨P3, ix3, ld3⟩ := hxu3.at1 (i := ((ks.length : Nat) : Int)) (j := ks.length) rfl hvv
  have hPP : P3 = P := by
    rw [ix] at ix3
    exact (Option.some.inj ix3).symm
  rw [hPP] at ld3
  have q2 : aBin .quo (I .u64 (rowK v : Nat)) (I .u64 64) = some (I .u64 ((rowK v / 64 : Nat))) := quo_nat .u64 _ 64 (by decide) (wrap64 _ (by omega))
  have r3 : aBin .rem (I .u64 ((rowK v / 64 : Nat) : Int)) (I .u64 3) = some (I .u64 ((rowK v / 64 % 3 : Nat) : Int)) := rem_nat .u64 _ 3 (by decide)
  have x3 : aBin .eql (I .u64 ((rowK v / 64 % 3 : Nat) : Int)) (I .u64 0) = some (B (decide (rowK v / 64 % 3 = 0))) := by rw [eql_int, show decide (((rowK v / 64 % 3 : Nat) : Int) = 0) = decide (rowK v / 64 % 3 = 0) from decide_eq_decide.2 (by omega)]
  have hlen : (ks ++ [K]).length = ks.length + 1 := by simp
  have wi : IntKind.i64.wrap ((ks.length : Nat) + 1) = ((ks.length + 1 : Nat) : Int) := by rw [wrap_in _ (by omega) (by omega)]; omega
  have cn3' : Ow 1 u3 cx' (ks ++ [K]).length ((ks ++ [K]).map fun k : Nat => S.int .i64 (k : Int)) := by
    rw [hlen, List.map_append]
    exact cn3
  have rg3 : ∀ k ∈ ks ++ [K], 1 ≤ k ∧ k ≤ 64 := fun k hk => by
    rcases List.mem_append.1 hk with hk | hk
    · exact hrg k hk
    · rw [List.mem_singleton] at hk; rw [hk]; exact ⟨hK1, hK2⟩
  have hcK : (rulesFS (ks ++ [K])).rule.c = (K : Int) := by
    show (ruleOf (ks ++ [K])).c = _
    rw [ruleOf_snoc]; exact (rule_ok hK1 hK2).2
  have fin : ∀ (u4 : St) (ρ4 : Nat → Nat) (fs4 : List Fl) (sure4 : Nat), HasSt ρ4 u4 B1 10000 fs4 ((ks ++ [K]).map ruleE) (rulesFS (ks ++ [K])) sure4 → OnlyLog fs4 (framesB ((ks ++ [K]).map ruleE)) → LogIs fs4 ((ks ++ [K]).map ruleE) sure4 →
      (∀ c, c < u3.size → ρ4 c = ρ3 c) → u3.size ≤ u4.size → (∀ c, c < u3.size → 7 ≤ ρ3 c → u4.get c = u3.get c) → ∃ u5 u6, R (d + 14) 32 [Z (.ptr D.p 0)] u4 = some (AP (rulesFS (ks ++ [K])).rule, u5) ∧ R (d + 14) 24 [Z (.ptr D.p 0)] u5 = some (I .i64 sure4, u6) ∧
        RInv s0 x D u6 cx' sure4 (ks ++ [K]) ρ4 B1 fs4 := by
    intro u4 ρ4 fs4 sure4 h4 ol4 lg4 ra4 z4 k4
    obtain ⟨u5, e5, g5⟩ := rule_run (d + 12) h4
    have h5 := h4.gr g5
    have e6 := sure_run (d + 13) h5
    rw [bp1, hbp] at e5 e6
    have z5 := g5.2.1
    have hcx : ∀ c, own cx' = some c → c < u3.size := fun c hc => cn3.lt wf3 hc
    refine ⟨u5, u5, e5, e6, h5, ol4, lg4, cn3'.keep fun c hc => ?_, fun c hc => ?_, by omega, fun c hc => ?_, fun c hc => ?_, ⟨by rw [bp1, hbp], by rw [bi1, hbi], by rw [bm1, hbm]⟩, rg3⟩
    · rw [g5.2.2 c (by have := hcx c hc; omega), k4 c (hcx c hc) (by rw [(cr3 c hc).1]; decide)]
    · rw [ra4 c (hcx c hc)]; exact cr3 c hc
    · rw [ra4 c (by omega), ro3 c hc]
    · rw [g5.2.2 c (by omega), k4 c (by omega) (by rw [ro3 c hc]; decide), kp3 c hc]
  have fld : aField none 4 (AP (rulesFS (ks ++ [K])).rule) = some (I .i64 (K : Nat)) := by
    show some (I .i64 (rulesFS (ks ++ [K])).rule.c) = _
    rw [hcK]
  rw [← hK]
  by_cases hy : rowK v / 64 % 3 = 0
  · rw [decide_eq_true hy] at x3
    obtain ⟨ρ4, fs4, u4, e4, h4, lg4, sy4, z4, ra4, k4⟩ := sync_run (d + 10) h3 lg1
    rw [bp1, hbp] at e4
    have ol4 := ol1.synced sy4
    rw [List.length_map] at h4 lg4
    obtain ⟨u5, u6, e5, e6, H⟩ := fin u4 ρ4 fs4 _ h4 ol4 lg4 ra4 z4 k4
    have l4 := cn3'.rd.lens
    refine ⟨u6, cx', _, ρ4, B1, fs4, ?_, H⟩
    unfold f6_l1
    rw [hlen] at l4 e6 ⊢
    clear fin H ts hK hKd
    generalize UInt8.ofNat (48 + K / 10) = dA at *
    generalize UInt8.ofNat (48 + K % 10) = dB at *
    generalize ([115, 101, 97, 108, 32] : Bs) ++ [dA] = T1 at *
    generalize sealK K = T2 at *
    simp only [Nat.add_assoc, Nat.reduceAdd] at e4
    generalize R (d + 14) = rr at *
    generalize ((ks.length + 1 : Nat) : Int) = N1 at *
    generalize ((ks.length : Nat) : Int) = N0 at *
    generalize ((is.length : Nat) : Int) = LL at *
    generalize ((rowK v / 64 % 3 : Nat) : Int) = m3 at *
    generalize ((rowK v / 64 : Nat) : Int) = m2 at *
    generalize ((rowK v % 64 : Nat) : Int) = m1 at *
    generalize ((rowK v : Nat) : Int) = m0 at *
    generalize ((K / 10 + 1 : Nat) : Int) = K1 at *
    generalize ((K / 10 : Nat) : Int) = K0 at *
    generalize ((K % 10 + 1 : Nat) : Int) = K3 at *
    generalize ((K % 10 : Nat) : Int) = K2 at *
    generalize ((K : Nat) : Int) = KK at *
    simp [lx, c0, c00, ix, ld, c1, r1, c3, a1, q1, a2, p1, t1, r2, a3, p2, t2, ag, e1, nw2, ap3, ld3, q2, r3, x3, e4, l4, e5, e6, fld, gtt, wi]
  · rw [decide_eq_false hy] at x3
    obtain ⟨u5, u6, e5, e6, H⟩ := fin u3 ρ3 fs1 _ h3 ol1 lg1 (fun _ _ => rfl) (Nat.le_refl _) (fun _ _ _ => rfl)
    refine ⟨u6, cx', _, ρ3, B1, fs1, ?_, H⟩
    unfold f6_l1
    rw [hlen]
    clear fin H ts hK hKd
    generalize UInt8.ofNat (48 + K / 10) = dA at *
    generalize UInt8.ofNat (48 + K % 10) = dB at *
    generalize ([115, 101, 97, 108, 32] : Bs) ++ [dA] = T1 at *
    generalize sealK K = T2 at *
    generalize R (d + 14) = rr at *
    generalize ((ks.length + 1 : Nat) : Int) = N1 at *
    generalize ((ks.length : Nat) : Int) = N0 at *
    generalize ((is.length : Nat) : Int) = LL at *
    generalize ((rowK v / 64 % 3 : Nat) : Int) = m3 at *
    generalize ((rowK v / 64 : Nat) : Int) = m2 at *
    generalize ((rowK v % 64 : Nat) : Int) = m1 at *
    generalize ((rowK v : Nat) : Int) = m0 at *
    generalize ((K / 10 + 1 : Nat) : Int) = K1 at *
    generalize ((K / 10 : Nat) : Int) = K0 at *
    generalize ((K % 10 + 1 : Nat) : Int) = K3 at *
    generalize ((K % 10 : Nat) : Int) = K2 at *
    generalize ((K : Nat) : Int) = KK at *
    generalize ((sure : Nat) : Int) = SS at *
    simp [lx, c0, c00, ix, ld, c1, r1, c3, a1, q1, a2, p1, t1, r2, a3, p2, t2, ag, e1, nw2, ap3, ld3, q2, r3, x3, e5, e6, fld, gtt, wi]
end
end Go.Proofs.YtbohejffelipoaaGreatDoor


/-
  StoreRules, run. No conditions but those named in each line.
-/
namespace Go.Proofs.YtbohejffelipoaaGreatDoor
open Go Go.Abs Go.Abs.F
set_option linter.unusedVariables false
section
variable {ρ ρ' : Nat → Nat} {s0 s t u : St} {D E : SBk} {room : Int} {fs fs' : List Fl} {l es : List Ent} {q : FoS} {sure : Nat} {i m : Nat} {e : Ent} {y x cx : S} {v0 v1 : T} {bs : Bs} {ks : List Nat} {is : List Int}

theorem rules_loop (d : Nat) (h : RInv s0 x D u .nils 0 [] ρ E fs) (hx : Rd 1 s0 x is.length (is.map (S.int .i64))) (hxl : ∀ c, own x = some c → c < s0.size) (keep : Int) :
    ∃ u' cx' sure' ks' ρ' E' fs', loops (f6_l1 (R (d + 14)) 8192) 8192 [Z x, I .i64 keep, Z (.ptr D.i 0), Z (.ptr D.p 0), Z .nils, I .i64 0, I .i64 0] u = some (.exit 0 [I .i64 keep, Z (.ptr D.i 0), Z cx', I .i64 (sure' : Nat)], u') ∧ RInv s0 x D u' cx' sure' ks' ρ' E' fs' ∧ ks'.length ≤ 10 := by
  obtain ⟨j, t, lp, hfin⟩ := loops_inv (f := f6_l1 (R (d + 14)) 8192)
    (fun f v u => ∃ cx sure ks ρ E fs, f + ks.length = 10 ∧ v = [Z x, I .i64 keep, Z (.ptr D.i 0), Z (.ptr D.p 0), Z cx, I .i64 (sure : Nat), I .i64 ((ks.length : Nat) : Int)] ∧ RInv s0 x D u cx sure ks ρ E fs)
    (fun j u => ∃ cx sure ks ρ E fs, j = .exit 0 [I .i64 keep, Z (.ptr D.i 0), Z cx, I .i64 (sure : Nat)] ∧ RInv s0 x D u cx sure ks ρ E fs ∧ ks.length ≤ 10) (by
    rintro f v u ⟨cx, sure, ks, ρ, E, fs, hf, rfl, H⟩
    have hxu : Rd 1 u x is.length (is.map (S.int .i64)) := hx.keep fun c hc => H.kp c (hxl c hc)
    have lx := hxu.lens
    by_cases h1 : ks.length < is.length
    · by_cases h2 : ks.length < 10
      · left
        obtain ⟨u', cx', sure', ρ', E', fs', e1, H1⟩ := rules_step d H hx hxl (v := is[ks.length]) (keep := keep) (List.getElem?_eq_getElem h1) h2
        exact ⟨_, u', f - 1, e1, by omega, cx', sure', _, ρ', E', fs', by simp; omega, rfl, H1⟩
      · right
        have c0 : ((ks.length : Nat) : Int) < ((is.length : Nat) : Int) := by omega
        have c1 : ¬ ((ks.length : Nat) : Int) < 10 := by omega
        refine ⟨_, u, ?_, (fun v h => by cases h), cx, sure, ks, ρ, E, fs, rfl, H, by omega⟩
        unfold f6_l1
        generalize ((ks.length : Nat) : Int) = N0 at *
        generalize ((is.length : Nat) : Int) = LL at *
        simp [lx, c0, c1]
    · right
      have c0 : ¬ ((ks.length : Nat) : Int) < ((is.length : Nat) : Int) := by omega
      refine ⟨_, u, ?_, (fun v h => by cases h), cx, sure, ks, ρ, E, fs, rfl, H, by omega⟩
      unfold f6_l1
      generalize ((ks.length : Nat) : Int) = N0 at *
      generalize ((is.length : Nat) : Int) = LL at *
      simp [lx, c0])
    8192 10 _ u ⟨.nils, 0, [], ρ, E, fs, rfl, rfl, h⟩ (by decide)
  obtain ⟨cx, sure, ks, ρ, E, fs, rfl, H, hk⟩ := hfin
  exact ⟨t, cx, sure, ks, ρ, E, fs, lp, H, hk⟩

theorem dcrash_nil (d : Nat) (h : Dk s i m room []) (a : T) : R (d + 2) 25 [Z (.ptr i 0), a] s = some (.tup [], s) := by
  rw [f25_run]
  unfold f25
  rcases dnames_run d h (fun f hf => by cases hf) (by simp) with ⟨_, e1⟩ | ⟨e, _⟩
  · generalize R (d + 1) = r at e1 ⊢
    have lp : loops (f25_l1 r 8192) 8192 [Z (.ptr i 0), a, Z .nils, I .i64 0, I .i64 0] s = some (.exit 0 [], s) := by
      rw [show (8192 : Nat) = 8191 + 1 from rfl, loops]
      have : f25_l1 r (8191 + 1) [Z (.ptr i 0), a, Z .nils, I .i64 0, I .i64 0] s = some (.exit 0 [], s) := by
        unfold f25_l1
        simp
      rw [this]
    simp [e1, lp, retT, allV]
  · exact absurd rfl e

theorem olog_crash (d : Nat) (h : Dk s i m room fs) (hr : ρ i = 0 ∧ ρ m = 0 ∧ ∀ f ∈ fs, ρ f.fb = 0 ∧ ∀ c, own f.x = some c → ρ c = 0) (ho : OnlyLog fs bs) {S0 : Nat} (hs : ∀ f ∈ fs, f.sure = S0) (h0 : fs = [] → S0 = 0) (hS : S0 ≤ bs.length) {kb : Nat} {keep : Int} (hb : s.get kb = some (.cells true [.int .i64 keep])) :
    ∃ fs' t K, R (d + 2) 25 [Z (.ptr i 0), Z (.sl kb 0 1 (.known 1))] s = some (.tup [], t) ∧ Dk t i m room fs' ∧ OnlyLog fs' (bs.take K) ∧ S0 ≤ K ∧ K ≤ bs.length ∧ (keep ≤ 0 → K = S0) ∧ s.size ≤ t.size ∧ (∀ c, c < s.size → ρ c ≠ 0 → t.get c = s.get c) ∧ ∀ f ∈ fs', ρ f.fb = 0 ∧ ∀ c, own f.x = some c → ρ c = 0 := by
  rcases ho with ⟨rfl, rfl⟩ | ⟨f, rfl, hnm, hfl⟩
  · exact ⟨[], s, 0, dcrash_nil d h _, h, .inl ⟨rfl, rfl⟩, by rw [h0 rfl]; exact Nat.le_refl _, Nat.zero_le _, fun _ => (h0 rfl).symm, Nat.le_refl _, fun _ _ _ => rfl, fun f hf => (by cases hf)⟩
  · have hfm : f ∈ [f] := by simp
    have hsf := hs f hfm
    have hlen : f.l.length = bs.length := by rw [hfl]; simp [U]
    obtain ⟨n, hn⟩ : ∃ n : Nat, (n : Int) = min (max keep 0) ((f.l.length : Int) - f.sure) := ⟨(min (max keep 0) ((f.l.length : Int) - f.sure)).toNat, Int.toNat_of_nonneg (by omega)⟩
    have hkp : Keeps s (.sl kb 0 1 (.known 1)) f n := .inr ⟨kb, keep, rfl, aIndexSl_int (j := 0) rfl (by omega), h.wf.lt hb, aLoad1_of hb rfl, hn⟩
    obtain ⟨x', t, e1, k1, z1, o1, n1⟩ := dcrash_run d h (by rw [hnm]; decide) hkp (by omega)
    have hfr := hr.2.2 f hfm
    refine ⟨_, t, f.sure + n, e1, k1, .inr ⟨_, rfl, hnm, ?_⟩, by omega, by omega, fun hk => by omega, z1, fun c hc hr' => o1 c hc (fun e => hr' (by rw [e]; exact hfr.1)), fun g hg => ?_⟩
    · show f.l.take _ = _
      rw [hfl, U_take]
    · rw [List.mem_singleton] at hg
      subst hg
      refine ⟨hfr.1, fun c hc => ?_⟩
      rcases n1 with e | e
      · rw [e] at hc; cases hc
      · rw [e] at hc; exact hfr.2 c hc

set_option maxHeartbeats 4000000 in
theorem srules_run (d : Nat) (wf : s.wf) (hx : Rd 1 s x is.length (is.map (S.int .i64))) (hxl : ∀ c, own x = some c → c < s.size) (keep : Int) : ∃ t, R (d + 15) 6 [Z x, I .i64 keep] s = some (B true, t) := by
  obtain ⟨s1, e1, k1, g1⟩ := dnew_run (room := 10000) (d + 13) wf (by decide) (by decide)
  obtain ⟨ρ1, hρ1⟩ : ∃ ρ1 : Nat → Nat, ρ1 = fun c => if c < s.size then 9 else 0 := ⟨_, rfl⟩
  have ra1 : ∀ c, c < s.size → ρ1 c = 9 := fun c hc => by rw [hρ1]; exact if_pos hc
  have rb1 : ∀ c, s.size ≤ c → ρ1 c = 0 := fun c hc => by rw [hρ1]; exact if_neg (by omega)
  have r0 : readP [] = ([], 0) := rfl
  obtain ⟨ρ2, D, fs2, s2, e2, h2, ol2, su2, z2, ⟨hi2, hm2⟩, ra2, k2⟩ := stopen_run (ρ := ρ1) (d + 1) k1 (.inl ⟨rfl, rfl⟩) (rb1 _ (by omega)) (rb1 _ (Nat.le_refl _)) (fun f hf => (by cases hf)) (by decide) r0 rfl (by decide) rfl rfl rfl (fun e he => (by cases he)) (by decide)
  have z1 := g1.2.1
  have lg2 : LogIs fs2 ([].map ruleE) 0 := ol2.log (fun f hf => by rw [su2 f hf]; rfl) fun _ => ⟨rfl, rfl⟩
  have H : RInv s x D s2 .nils 0 [] ρ2 D fs2 := ⟨h2, ol2, lg2, Ow.nil 1 s2, fun c hc => (by cases hc), by omega, fun c hc => by rw [ra2 c (by omega), ra1 c hc], fun c hc => by rw [k2 c (by omega) (by rw [ra1 c hc]; decide), g1.2.2 c hc], ⟨rfl, rfl, rfl⟩, fun k hk => (by cases hk)⟩
  obtain ⟨s3, cx, sure, ks, ρ3, E, fs3, lp, H3, hks⟩ := rules_loop d H hx hxl keep
  obtain ⟨h3, ol3, lg3, cn3, cr3, gr3, ro3, kp3, ⟨bp3, bi3, bm3⟩, rg3⟩ := H3
  have g4 := Gr.push h3.swf (.cells true [.int .i64 keep])
  obtain ⟨s4, hs4⟩ : ∃ s4, s4 = s3.push (.cells true [.int .i64 keep]) := ⟨_, rfl⟩
  rw [← hs4] at g4
  have nw4 : aNew s3 (nSlice 1 (aFill [.int .i64 0] [(0, 1, I .i64 keep)])) = some (Z (.sl s3.size 0 1 (.known 1)), s4) := by rw [hs4]; simp [aNew, nSlice, aFill, V.cells, setRange]
  have b4 : s4.get s3.size = some (.cells true [.int .i64 keep]) := by rw [hs4]; exact St.get_push_same _ _
  have h4 := h3.gr g4
  have r4 := h4.ro
  obtain ⟨hall, hok, hev⟩ := h3.ok
  have hsu := h3.su
  rw [List.length_map] at hsu
  have hsur : ∀ f ∈ fs3, f.sure = placeL (ks.map ruleE) sure := by
    rcases ol3 with ⟨rfl, _⟩ | ⟨f, rfl, hnm, hfl⟩
    · intro f hf; cases hf
    · rcases lg3 with ⟨k, g, hk, hgn, hgl, hgs⟩ | ⟨hno, _⟩
      · have : g = f := by
          have := List.mem_of_getElem? hk
          simpa using this
        intro f' hf'
        rw [List.mem_singleton] at hf'
        rw [hf', ← this]; exact hgs
      · exact absurd hnm (hno f (by simp))
  have hz0 : fs3 = [] → placeL (ks.map ruleE) sure = 0 := fun hf => by
    rcases lg3 with ⟨k, g, hk, _⟩ | ⟨_, he, h0⟩
    · rw [hf] at hk; simp at hk
    · rw [h0]; exact placeL_zero _
  have hbl := framesB_len _ hall
  rw [List.length_map] at hbl
  have hple : placeL (ks.map ruleE) sure ≤ (framesB (ks.map ruleE)).length := by
    rw [← placeL_all]; exact placeL_mono _ (by simpa using hsu)
  obtain ⟨fs5, s5, K, e5, k5, ol5, hK0, hK1, hK2, z5, o5, f5⟩ := olog_crash (ρ := ρ3) (d + 12) h4.dk ⟨r4.i, r4.m, fun f hf => ⟨r4.fb f hf, fun c hc => r4.fx f hf c hc⟩⟩ ol3 hsur hz0 hple b4
  obtain ⟨j, hj, hrd, hjK, hjn, hjall⟩ := torn_law hall h3.wf (by simp; omega) hK1
  rw [List.length_map] at hj
  have hjmap : (ks.map ruleE).take j = (ks.take j).map ruleE := List.map_take.symm
  rw [hjmap] at hrd hjK
  have htk : ((framesB (ks.map ruleE)).take K).take (framesB ((ks.take j).map ruleE)).length = framesB ((ks.take j).map ruleE) := by
    rw [List.take_take, Nat.min_eq_left hjK]
    have h1 : framesB (ks.map ruleE) = framesB ((ks.take j).map ruleE) ++ framesB ((ks.drop j).map ruleE) := by
      rw [← framesB_append, ← List.map_append, List.take_append_drop]
    rw [h1, List.take_left]
  have rgj : ∀ k ∈ ks.take j, 1 ≤ k ∧ k ≤ 64 := fun k hk => rg3 k (List.mem_of_mem_take hk)
  obtain ⟨ρ6, D6, fs6, s6, e6, h6, ol6, su6, z6, ⟨hi6, hm6⟩, ra6, k6⟩ := stopen_run (ρ := ρ3) (d + 1) k5 ol5 r4.i r4.m f5 (by rw [List.length_take]; omega) hrd rfl (by rw [List.length_take]; omega) htk (rules_fold _ _ rfl rgj) rfl (fun e he => by
      obtain ⟨k, _, rfl⟩ := List.mem_map.1 he
      exact rule_wf k) (by simp; omega)
  obtain ⟨y7, s7, e7, F7⟩ := entries_run (d + 12) h6
  have ly := F7.rd.lens
  have lj : ((ks.take j).map ruleE).length = j := by simp; omega
  rw [lj] at ly
  have h7 := h6.gr F7.gr
  have e8 := told12_run (d + 13) s7
  obtain ⟨s9, e9, g9⟩ := rule_run (d + 12) h7
  have e10 := sure_run (d + 13) h7
  have hsj : sure ≤ j := by
    apply Nat.le_of_not_lt
    intro hlt
    have h1 := placeL_mono (ks.map ruleE) (i := j + 1) (j := sure) hlt
    have hjl : j < (ks.map ruleE).length := by simp; omega
    have h2 := hjn hjl
    have h3 : placeL (ks.map ruleE) (j + 1) = (framesB ((ks.map ruleE).take j)).length + (wrapB (putB (ks.map ruleE)[j])).length := by
      unfold placeL
      rw [List.take_add_one, List.getElem?_eq_getElem hjl, framesB_append, List.length_append]
      simp [framesB]
    omega
  have hj0 : keep ≤ 0 → j = sure := fun hk => by
    have h1 := hK2 hk
    apply Nat.le_antisymm _ hsj
    apply Nat.le_of_not_lt
    intro hlt
    have h2 := placeL_lt (ks.map ruleE) hlt (by simp; omega)
    have h3 : placeL (ks.map ruleE) j = (framesB ((ks.take j).map ruleE)).length := by unfold placeL; rw [hjmap]
    omega
  have c1 : ¬ ((j : Nat) : Int) < ((sure : Nat) : Int) := by omega
  have lcx3 := cn3.rd.lens
  have hcxl : ∀ c, own cx = some c → c < s3.size := fun c hc => cn3.lt h3.swf hc
  have cxk : ∀ c, own cx = some c → s7.get c = s3.get c := fun c hc => by
    have hr := (cr3 c hc).1
    have hl := hcxl c hc
    have g41 := g4.2.1
    rw [F7.gr.2.2 c (by omega), k6 c (by omega) (by rw [hr]; decide), o5 c (by omega) (by rw [hr]; decide), g4.2.2 c hl]
  have cn7 : Ow 1 s7 cx ks.length (ks.map fun k : Nat => S.int .i64 (k : Int)) := cn3.keep cxk
  have cn9 : Ow 1 s9 cx ks.length (ks.map fun k : Nat => S.int .i64 (k : Int)) := cn7.keep fun c hc => g9.2.2 c (by have := hcxl c hc; have := g4.2.1; have := F7.gr.2.1; omega)
  have c2 : ¬ ((ks.length : Nat) : Int) < ((j : Nat) : Int) := by omega
  have pD : eqB .p (Z (.ptr D.p 0)) (Z .nilp) = some (B false) := rfl
  have pD6 : eqB .p (Z (.ptr D6.p 0)) (Z .nilp) = some (B false) := rfl
  have fin : (0 < keep ∨ ((j : Nat) : Int) = ((sure : Nat) : Int)) := by
    by_cases hk : 0 < keep
    · exact .inl hk
    · exact .inr (by rw [hj0 (by omega)])
  rw [bi3] at e5
  rw [hi2] at lp e5
  rw [bi3, hi2] at e6
  rw [show D6.p = D6.p from rfl] at e7
  rw [f6_run]
  unfold f6
  simp only [Nat.add_assoc, Nat.reduceAdd] at e1 e2 e5 e6 e7 e8 e9 lp
  by_cases hjz : j = 0
  · subst hjz
    have f1 : aField none 4 (AP (rulesFS []).rule) = some (I .i64 8) := rfl
    rw [List.take_zero] at e9
    refine ⟨s9, ?_⟩
    have hz : ((0 : Nat) : Int) = 0 := rfl
    rw [hz] at c1 c2 ly fin
    generalize R (d + 14) = rr at *
    generalize ((ks.length : Nat) : Int) = LL at *
    generalize ((sure : Nat) : Int) = SS at *
    clear lg2 hρ1 H
    by_cases hkp : 0 < keep
    · simp [e1, e2, aExtract, lp, nw4, e5, e6, e7, ly, c1, c2, lcx3, cn7.rd.lens, e8, e9, f1, gtt, wq, hkp]
    · have hs := fin.resolve_left hkp
      simp [e1, e2, aExtract, lp, nw4, e5, e6, e7, ly, c1, c2, lcx3, cn7.rd.lens, e8, e9, f1, gtt, wq, hkp, ← hs]
  · obtain ⟨j', rfl⟩ : ∃ j', j = j' + 1 := ⟨j - 1, by omega⟩
    have hjl : j' < ks.length := by omega
    have hkj : ks.take (j' + 1) = ks.take j' ++ [ks[j']] := by rw [List.take_add_one, List.getElem?_eq_getElem hjl]; rfl
    have hcK : (rulesFS (ks.take (j' + 1))).rule.c = ((ks[j'] : Nat) : Int) := by
      show (ruleOf (ks.take (j' + 1))).c = _
      have := rg3 _ (List.getElem_mem hjl)
      rw [hkj, ruleOf_snoc]; exact (rule_ok this.1 this.2).2
    have f1 : aField none 4 (AP (rulesFS (ks.take (j' + 1))).rule) = some (I .i64 ((ks[j'] : Nat) : Int)) := by
      show some (I .i64 (rulesFS (ks.take (j' + 1))).rule.c) = _
      rw [hcK]
    have hkv : (ks.map fun k : Nat => S.int .i64 (k : Int))[j']? = some (S.int .i64 ((ks[j'] : Nat) : Int)) := by rw [List.getElem?_map, List.getElem?_eq_getElem hjl]; rfl
    obtain ⟨P, ix, ld7⟩ := cn7.rd.at1 (i := ((j' : Nat) : Int)) (j := j') rfl hkv
    obtain ⟨P9, ix9, ld9⟩ := cn9.rd.at1 (i := ((j' : Nat) : Int)) (j := j') rfl hkv
    have hPP : P9 = P := by
      rw [ix] at ix9
      exact (Option.some.inj ix9).symm
    rw [hPP] at ld9
    have w1 : IntKind.i64.wrap (((j' + 1 : Nat) : Int) - 1) = ((j' : Nat) : Int) := by rw [wrap_in _ (by omega) (by omega)]; omega
    have c3 : ¬ ((j' + 1 : Nat) : Int) = 0 := by omega
    have c4 : 0 < ((j' + 1 : Nat) : Int) := by omega
    refine ⟨s9, ?_⟩
    generalize R (d + 14) = rr at *
    generalize ((ks[j'] : Nat) : Int) = KV at *
    generalize ((j' + 1 : Nat) : Int) = J1 at *
    generalize ((j' : Nat) : Int) = J0 at *
    generalize ((ks.length : Nat) : Int) = LL at *
    generalize ((sure : Nat) : Int) = SS at *
    clear lg2 hρ1 H
    by_cases hkp : 0 < keep
    · simp [e1, e2, aExtract, lp, nw4, e5, e6, e7, ly, c1, c2, lcx3, cn7.rd.lens, e8, e9, f1, gtt, wq, c3, c4, w1, ix, ld7, ld9, hkp]
    · have hs := fin.resolve_left hkp
      simp [e1, e2, aExtract, lp, nw4, e5, e6, e7, ly, c1, c2, lcx3, cn7.rd.lens, e8, e9, f1, gtt, wq, c3, c4, w1, ix, ld7, ld9, hkp, ← hs]
end
end Go.Proofs.YtbohejffelipoaaGreatDoor


/-
  Functions of the library in this program, as the kit lays them. No conditions.
-/
namespace Go.Proofs
open Go.Shelf
def Tryz.lays156_ren : Go.Shelf.Ren := ⟨fun | 156 => 181 | 165 => 220 | 166 => 221 | 169 => 222 | 240 => 249 | 241 => 250 | 276 => 268 | 277 => 269 | n => n, fun | 31 => 69 | 9 => 9 | 3 => 3 | 4 => 4 | 0 => 0 | 20 => 20 | 72 => 265 | 76 => 156 | 70 => 263 | 37 => 22 | 75 => 155 | 127 => 289 | 164 => 307 | 5 => 5 | 80 => 267 | n => n, fun | n => n⟩
theorem Tryz.lays156 : Go.Proofs.Lays.n156 Tryz.prog Tryz.lays156_ren := {
  mixed := by kernel_rfl
  f156 := Tryz.func181.trans (congrArg some (by kernel_rfl))
  f165 := Tryz.func220.trans (congrArg some (by kernel_rfl))
  f166 := Tryz.func221.trans (congrArg some (by kernel_rfl))
  f169 := Tryz.func222.trans (congrArg some (by kernel_rfl))
  f240 := Tryz.func249.trans (congrArg some (by kernel_rfl))
  f241 := Tryz.func250.trans (congrArg some (by kernel_rfl))
  f276 := Tryz.func268.trans (congrArg some (by kernel_rfl))
  f277 := Tryz.func269.trans (congrArg some (by kernel_rfl))
  t0 := Tryz.underlying0
  a0 := Tryz.isAgg0
  z0 := Tryz.sizeOf0
  v0 := Tryz.zeroValue0
  t3 := Tryz.underlying3
  a3 := Tryz.isAgg3
  z3 := Tryz.sizeOf3
  v3 := Tryz.zeroValue3
  t4 := Tryz.underlying4
  a4 := Tryz.isAgg4
  z4 := Tryz.sizeOf4
  v4 := Tryz.zeroValue4
  t9 := Tryz.underlying9
  a9 := Tryz.isAgg9
  z9 := Tryz.sizeOf9
  v9 := Tryz.zeroValue9
  t20 := Tryz.underlying20
  a20 := Tryz.isAgg20
  z20 := Tryz.sizeOf20
  v20 := Tryz.zeroValue20
  t31 := Tryz.underlying69
  a31 := Tryz.isAgg69
  z31 := Tryz.sizeOf69
  v31 := Tryz.zeroValue69
  t37 := Tryz.underlying22
  a37 := Tryz.isAgg22
  z37 := Tryz.sizeOf22
  v37 := Tryz.zeroValue22
  t70 := Tryz.underlying263
  a70 := Tryz.isAgg263
  z70 := Tryz.sizeOf263
  v70 := Tryz.zeroValue263
  t72 := Tryz.underlying265
  a72 := Tryz.isAgg265
  z72 := Tryz.sizeOf265
  v72 := Tryz.zeroValue265
  t75 := Tryz.underlying155
  a75 := Tryz.isAgg155
  z75 := Tryz.sizeOf155
  v75 := Tryz.zeroValue155
  t76 := Tryz.underlying156
  a76 := Tryz.isAgg156
  z76 := Tryz.sizeOf156
  v76 := Tryz.zeroValue156
  t127 := Tryz.underlying289
  a127 := Tryz.isAgg289
  z127 := Tryz.sizeOf289
  v127 := Tryz.zeroValue289
  t164 := Tryz.underlying307
  a164 := Tryz.isAgg307
  z164 := Tryz.sizeOf307
  v164 := Tryz.zeroValue307 }
theorem Tryz.Builder_Extra_156 : Builder.Extra Tryz.prog Tryz.lays156_ren := {
  sizeBuilder := by kernel_rfl
  liesBuilder := by kernel_rfl
  t5 := Tryz.underlying5
  a5 := Tryz.isAgg5
  z5 := Tryz.sizeOf5
  v5 := Tryz.zeroValue5
  infoByte := by kernel_rfl
  cellsByte := by kernel_rfl
  sizeByte := by kernel_rfl
  neB5 := by decide }
open Go.RowKit in
theorem Tryz.strings_Join_none (a : Option Addr) (c : Nat) (sep : ByteArray) (w : World) :
    Calls Tryz.prog 181 #[.slice a 0 c, .string sep] w fun e w' => e = .returned (.string ⟨#[]⟩) ∧ w' = w := Any.strings_Join_none Tryz.lays156 Tryz.Builder_Extra_156 a c sep w
open Go.RowKit in
theorem Tryz.strings_Join (bk o c : Nat) (xs : List ByteArray) (sep : ByteArray) (w : World) (hcells : ∀ (j : Nat) x, xs[j]? = some x → w.cell? ⟨bk, o + j, none⟩ = some (.string x)) (hbk : bk < w.heap.size) (hN : xs.length ≤ 140737488355328) (hcap : xs.length ≤ c) (hlen : (Lib.join (xs.map (·.data.toList)) sep.data.toList).length ≤ 140737488355328) :
    Calls Tryz.prog 181 #[.slice (some ⟨bk, o, none⟩) xs.length c, .string sep] w fun e w' => e = .returned (.string ⟨(Lib.join (xs.map (·.data.toList)) sep.data.toList).toArray⟩) ∧ Below w.heap.size w w' := Any.strings_Join Tryz.lays156 Tryz.Builder_Extra_156 bk o c xs sep w hcells hbk hN hcap hlen
def Tryz.lays219_ren : Go.Shelf.Ren := ⟨fun | 219 => 248 | 217 => 266 | 225 => 263 | 224 => 262 | 267 => 267 | 266 => 272 | 314 => 273 | n => n, fun | 9 => 9 | 3 => 3 | 4 => 4 | 5 => 5 | 46 => 29 | 146 => 310 | 51 => 45 | n => n, fun | 1 => 5 | n => n⟩
theorem Tryz.lays219 : Go.Proofs.Lays.n219 Tryz.prog Tryz.lays219_ren := {
  mixed := by kernel_rfl
  f217 := Tryz.func266.trans (congrArg some (by kernel_rfl))
  f219 := Tryz.func248.trans (congrArg some (by kernel_rfl))
  f224 := Tryz.func262.trans (congrArg some (by kernel_rfl))
  f225 := Tryz.func263.trans (congrArg some (by kernel_rfl))
  f266 := Tryz.func272.trans (congrArg some (by kernel_rfl))
  f267 := Tryz.func267.trans (congrArg some (by kernel_rfl))
  f314 := Tryz.func273.trans (congrArg some (by kernel_rfl))
  t3 := Tryz.underlying3
  a3 := Tryz.isAgg3
  z3 := Tryz.sizeOf3
  v3 := Tryz.zeroValue3
  t4 := Tryz.underlying4
  a4 := Tryz.isAgg4
  z4 := Tryz.sizeOf4
  v4 := Tryz.zeroValue4
  t5 := Tryz.underlying5
  a5 := Tryz.isAgg5
  z5 := Tryz.sizeOf5
  v5 := Tryz.zeroValue5
  t9 := Tryz.underlying9
  a9 := Tryz.isAgg9
  z9 := Tryz.sizeOf9
  v9 := Tryz.zeroValue9
  t46 := Tryz.underlying29
  a46 := Tryz.isAgg29
  z46 := Tryz.sizeOf29
  v46 := Tryz.zeroValue29
  t51 := Tryz.underlying45
  a51 := Tryz.isAgg45
  z51 := Tryz.sizeOf45
  v51 := Tryz.zeroValue45
  t146 := Tryz.underlying310
  a146 := Tryz.isAgg310
  z146 := Tryz.sizeOf310
  v146 := Tryz.zeroValue310
  g1 := by kernel_rfl }
open Go.RowKit Go.Lib in
theorem Tryz.stringslite_Index_one (s : ByteArray) (c : UInt8) (w : World) :
    Calls Tryz.prog 248 #[.string s, .string ⟨#[c]⟩] w fun e w' => e = .returned (.int .i64 (Lib.indexByte s.data.toList c)) ∧ w' = w := Any.stringslite_Index_one Tryz.lays219 s c w
def Tryz.lays143_ren : Go.Shelf.Ren := ⟨fun | 143 => 247 | 219 => 248 | 217 => 266 | 225 => 263 | 224 => 262 | 267 => 267 | 266 => 272 | 314 => 273 | n => n, fun | 9 => 9 | 3 => 3 | 4 => 4 | 5 => 5 | 46 => 29 | 146 => 310 | 51 => 45 | n => n, fun | 1 => 5 | n => n⟩
theorem Tryz.lays143 : Go.Proofs.Lays.n143 Tryz.prog Tryz.lays143_ren := {
  mixed := by kernel_rfl
  f143 := Tryz.func247.trans (congrArg some (by kernel_rfl))
  f217 := Tryz.func266.trans (congrArg some (by kernel_rfl))
  f219 := Tryz.func248.trans (congrArg some (by kernel_rfl))
  f224 := Tryz.func262.trans (congrArg some (by kernel_rfl))
  f225 := Tryz.func263.trans (congrArg some (by kernel_rfl))
  f266 := Tryz.func272.trans (congrArg some (by kernel_rfl))
  f267 := Tryz.func267.trans (congrArg some (by kernel_rfl))
  f314 := Tryz.func273.trans (congrArg some (by kernel_rfl))
  t3 := Tryz.underlying3
  a3 := Tryz.isAgg3
  z3 := Tryz.sizeOf3
  v3 := Tryz.zeroValue3
  t4 := Tryz.underlying4
  a4 := Tryz.isAgg4
  z4 := Tryz.sizeOf4
  v4 := Tryz.zeroValue4
  t5 := Tryz.underlying5
  a5 := Tryz.isAgg5
  z5 := Tryz.sizeOf5
  v5 := Tryz.zeroValue5
  t9 := Tryz.underlying9
  a9 := Tryz.isAgg9
  z9 := Tryz.sizeOf9
  v9 := Tryz.zeroValue9
  t46 := Tryz.underlying29
  a46 := Tryz.isAgg29
  z46 := Tryz.sizeOf29
  v46 := Tryz.zeroValue29
  t51 := Tryz.underlying45
  a51 := Tryz.isAgg45
  z51 := Tryz.sizeOf45
  v51 := Tryz.zeroValue45
  t146 := Tryz.underlying310
  a146 := Tryz.isAgg310
  z146 := Tryz.sizeOf310
  v146 := Tryz.zeroValue310
  g1 := by kernel_rfl }
open Go.RowKit Go.Lib in
theorem Tryz.strings_Index_one (s : ByteArray) (c : UInt8) (w : World) :
    Calls Tryz.prog 247 #[.string s, .string ⟨#[c]⟩] w fun e w' => e = .returned (.int .i64 (Lib.indexByte s.data.toList c)) ∧ w' = w := Any.strings_Index_one Tryz.lays143 s c w
def Tryz.lays138_ren : Go.Shelf.Ren := ⟨fun | 138 => 246 | 195 => 264 | 218 => 265 | 143 => 247 | 219 => 248 | 217 => 266 | 225 => 263 | 224 => 262 | 267 => 267 | 266 => 272 | 314 => 273 | n => n, fun | 9 => 9 | 3 => 3 | 4 => 4 | 5 => 5 | 0 => 0 | 46 => 29 | 146 => 310 | 51 => 45 | n => n, fun | 1 => 5 | n => n⟩
theorem Tryz.lays138 : Go.Proofs.Lays.n138 Tryz.prog Tryz.lays138_ren := {
  mixed := by kernel_rfl
  f138 := Tryz.func246.trans (congrArg some (by kernel_rfl))
  f143 := Tryz.func247.trans (congrArg some (by kernel_rfl))
  f195 := Tryz.func264.trans (congrArg some (by kernel_rfl))
  f217 := Tryz.func266.trans (congrArg some (by kernel_rfl))
  f218 := Tryz.func265.trans (congrArg some (by kernel_rfl))
  f219 := Tryz.func248.trans (congrArg some (by kernel_rfl))
  f224 := Tryz.func262.trans (congrArg some (by kernel_rfl))
  f225 := Tryz.func263.trans (congrArg some (by kernel_rfl))
  f266 := Tryz.func272.trans (congrArg some (by kernel_rfl))
  f267 := Tryz.func267.trans (congrArg some (by kernel_rfl))
  f314 := Tryz.func273.trans (congrArg some (by kernel_rfl))
  t0 := Tryz.underlying0
  a0 := Tryz.isAgg0
  z0 := Tryz.sizeOf0
  v0 := Tryz.zeroValue0
  t3 := Tryz.underlying3
  a3 := Tryz.isAgg3
  z3 := Tryz.sizeOf3
  v3 := Tryz.zeroValue3
  t4 := Tryz.underlying4
  a4 := Tryz.isAgg4
  z4 := Tryz.sizeOf4
  v4 := Tryz.zeroValue4
  t5 := Tryz.underlying5
  a5 := Tryz.isAgg5
  z5 := Tryz.sizeOf5
  v5 := Tryz.zeroValue5
  t9 := Tryz.underlying9
  a9 := Tryz.isAgg9
  z9 := Tryz.sizeOf9
  v9 := Tryz.zeroValue9
  t46 := Tryz.underlying29
  a46 := Tryz.isAgg29
  z46 := Tryz.sizeOf29
  v46 := Tryz.zeroValue29
  t51 := Tryz.underlying45
  a51 := Tryz.isAgg45
  z51 := Tryz.sizeOf45
  v51 := Tryz.zeroValue45
  t146 := Tryz.underlying310
  a146 := Tryz.isAgg310
  z146 := Tryz.sizeOf310
  v146 := Tryz.zeroValue310
  g1 := by kernel_rfl }
open Go.RowKit Go.Lib in
theorem Tryz.strings_Count_one (s : ByteArray) (c : UInt8) (w : World) :
    Calls Tryz.prog 246 #[.string s, .string ⟨#[c]⟩] w fun e w' => e = .returned (.int .i64 (Lib.countByte s.data.toList c)) ∧ w' = w := Any.strings_Count_one Tryz.lays138 s c w
end Go.Proofs


/-
  The layouts of maps.Keys, slices.Sorted and slices.Sort in this program, as the kit lays them. No conditions.
-/
namespace Go.Proofs
open Go.Shelf
def Tryz.keysA_ren : Go.Shelf.Ren := ⟨fun | 7 => 83 | 10 => 125 | n => n, fun | 23 => 81 | 26 => 9 | 3 => 87 | 28 => 138 | 0 => 0 | 27 => 137 | 33 => 93 | 4 => 4 | n => n, fun | n => n⟩
theorem Tryz.keysA : Go.Proofs.SlLaysZ.n7 Tryz.prog Tryz.keysA_ren := {
  mixed := by kernel_rfl
  f7 := ⟨Tryz.f83.name, by decide, Tryz.func83.trans (congrArg some (by kernel_rfl))⟩
  f10 := ⟨Tryz.f125.name, by decide, Tryz.func125.trans (congrArg some (by kernel_rfl))⟩
  t0 := Tryz.underlying0
  a0 := Tryz.isAgg0
  z0 := Tryz.sizeOf0
  v0 := Tryz.zeroValue0
  t4 := Tryz.underlying4
  a4 := Tryz.isAgg4
  z4 := Tryz.sizeOf4
  v4 := Tryz.zeroValue4
  t23 := Tryz.underlying81
  a23 := Tryz.isAgg81
  z23 := Tryz.sizeOf81
  v23 := Tryz.zeroValue81
  t26 := Tryz.underlying9
  a26 := Tryz.isAgg9
  z26 := Tryz.sizeOf9
  v26 := Tryz.zeroValue9
  t27 := Tryz.underlying137
  a27 := Tryz.isAgg137
  z27 := Tryz.sizeOf137
  v27 := Tryz.zeroValue137
  t28 := Tryz.underlying138
  a28 := Tryz.isAgg138
  z28 := Tryz.sizeOf138
  v28 := Tryz.zeroValue138
  t33 := Tryz.underlying93
  a33 := Tryz.isAgg93
  z33 := Tryz.sizeOf93
  v33 := Tryz.zeroValue93 }
def Tryz.sortedA_ren : Go.Shelf.Ren := ⟨fun | 6 => 82 | 8 => 123 | 9 => 124 | 11 => 162 | 13 => 164 | 12 => 163 | 23 => 210 | 24 => 211 | 14 => 201 | 15 => 202 | 16 => 203 | 17 => 204 | 18 => 205 | 19 => 206 | 20 => 207 | 21 => 208 | 22 => 209 | 25 => 235 | 26 => 236 | 27 => 237 | 28 => 238 | 29 => 239 | 30 => 240 | 31 => 259 | n => n, fun | 26 => 9 | 28 => 138 | 24 => 69 | 0 => 0 | 3 => 3 | 37 => 29 | 48 => 45 | 50 => 123 | 4 => 4 | 40 => 248 | 39 => 247 | 45 => 187 | 5 => 5 | 9 => 9 | 51 => 281 | 55 => 284 | 57 => 298 | 58 => 299 | 33 => 93 | n => n, fun | n => n⟩
theorem Tryz.sortedA : Go.Proofs.SlLaysZ.n6 Tryz.prog Tryz.sortedA_ren := {
  mixed := by kernel_rfl
  f6 := ⟨Tryz.f82.name, by decide, Tryz.func82.trans (congrArg some (by kernel_rfl))⟩
  f8 := ⟨Tryz.f123.name, by decide, Tryz.func123.trans (congrArg some (by kernel_rfl))⟩
  f11 := ⟨Tryz.f162.name, by decide, Tryz.func162.trans (congrArg some (by kernel_rfl))⟩
  t0 := Tryz.underlying0
  a0 := Tryz.isAgg0
  z0 := Tryz.sizeOf0
  v0 := Tryz.zeroValue0
  t24 := Tryz.underlying69
  a24 := Tryz.isAgg69
  z24 := Tryz.sizeOf69
  v24 := Tryz.zeroValue69
  t26 := Tryz.underlying9
  a26 := Tryz.isAgg9
  z26 := Tryz.sizeOf9
  v26 := Tryz.zeroValue9
  t28 := Tryz.underlying138
  a28 := Tryz.isAgg138
  z28 := Tryz.sizeOf138
  v28 := Tryz.zeroValue138
  i26 := by kernel_rfl }
def Tryz.sortA_ren : Go.Shelf.Ren := ⟨fun | 6 => 124 | 8 => 164 | 9 => 163 | 19 => 210 | 20 => 211 | 21 => 201 | 22 => 202 | 23 => 203 | 24 => 204 | 25 => 205 | 26 => 206 | 27 => 207 | 28 => 208 | 29 => 209 | 36 => 235 | 31 => 236 | 32 => 237 | 37 => 238 | 38 => 239 | 39 => 240 | 41 => 259 | n => n, fun | 27 => 69 | 29 => 9 | 3 => 3 | 32 => 29 | 26 => 69 | 0 => 0 | 44 => 45 | 46 => 123 | 4 => 4 | 36 => 248 | 35 => 247 | 41 => 187 | 5 => 5 | 9 => 9 | 53 => 281 | 57 => 284 | 63 => 298 | 64 => 299 | n => n, fun | n => n⟩
theorem Tryz.sortA : Go.Proofs.SlLaysM.n6 Tryz.prog Tryz.sortA_ren := {
  mixed := by kernel_rfl
  f6 := ⟨Tryz.f124.name, by decide, Tryz.func124.trans (congrArg some (by kernel_rfl))⟩
  f8 := Tryz.func164.trans (congrArg some (by kernel_rfl))
  f9 := ⟨Tryz.f163.name, by decide, Tryz.func163.trans (congrArg some (by kernel_rfl))⟩
  f19 := Tryz.func210.trans (congrArg some (by kernel_rfl))
  f20 := Tryz.func211.trans (congrArg some (by kernel_rfl))
  f21 := ⟨Tryz.f201.name, by decide, Tryz.func201.trans (congrArg some (by kernel_rfl))⟩
  f22 := ⟨Tryz.f202.name, by decide, Tryz.func202.trans (congrArg some (by kernel_rfl))⟩
  f23 := ⟨Tryz.f203.name, by decide, Tryz.func203.trans (congrArg some (by kernel_rfl))⟩
  f24 := ⟨Tryz.f204.name, by decide, Tryz.func204.trans (congrArg some (by kernel_rfl))⟩
  f25 := ⟨Tryz.f205.name, by decide, Tryz.func205.trans (congrArg some (by kernel_rfl))⟩
  f26 := ⟨Tryz.f206.name, by decide, Tryz.func206.trans (congrArg some (by kernel_rfl))⟩
  f27 := ⟨Tryz.f207.name, by decide, Tryz.func207.trans (congrArg some (by kernel_rfl))⟩
  f28 := ⟨Tryz.f208.name, by decide, Tryz.func208.trans (congrArg some (by kernel_rfl))⟩
  f29 := ⟨Tryz.f209.name, by decide, Tryz.func209.trans (congrArg some (by kernel_rfl))⟩
  f31 := Tryz.func236.trans (congrArg some (by kernel_rfl))
  f32 := Tryz.func237.trans (congrArg some (by kernel_rfl))
  f36 := ⟨Tryz.f235.name, by decide, Tryz.func235.trans (congrArg some (by kernel_rfl))⟩
  f37 := ⟨Tryz.f238.name, by decide, Tryz.func238.trans (congrArg some (by kernel_rfl))⟩
  f38 := ⟨Tryz.f239.name, by decide, Tryz.func239.trans (congrArg some (by kernel_rfl))⟩
  f39 := ⟨Tryz.f240.name, by decide, Tryz.func240.trans (congrArg some (by kernel_rfl))⟩
  f41 := ⟨Tryz.f259.name, by decide, Tryz.func259.trans (congrArg some (by kernel_rfl))⟩
  t0 := Tryz.underlying0
  a0 := Tryz.isAgg0
  z0 := Tryz.sizeOf0
  v0 := Tryz.zeroValue0
  t3 := Tryz.underlying3
  a3 := Tryz.isAgg3
  z3 := Tryz.sizeOf3
  v3 := Tryz.zeroValue3
  t4 := Tryz.underlying4
  a4 := Tryz.isAgg4
  z4 := Tryz.sizeOf4
  v4 := Tryz.zeroValue4
  t5 := Tryz.underlying5
  a5 := Tryz.isAgg5
  z5 := Tryz.sizeOf5
  v5 := Tryz.zeroValue5
  t9 := Tryz.underlying9
  a9 := Tryz.isAgg9
  z9 := Tryz.sizeOf9
  v9 := Tryz.zeroValue9
  t26 := Tryz.underlying69
  a26 := Tryz.isAgg69
  z26 := Tryz.sizeOf69
  v26 := Tryz.zeroValue69
  t27 := Tryz.underlying69
  a27 := Tryz.isAgg69
  z27 := Tryz.sizeOf69
  v27 := Tryz.zeroValue69
  t29 := Tryz.underlying9
  a29 := Tryz.isAgg9
  z29 := Tryz.sizeOf9
  v29 := Tryz.zeroValue9
  t32 := Tryz.underlying29
  a32 := Tryz.isAgg29
  z32 := Tryz.sizeOf29
  v32 := Tryz.zeroValue29
  t35 := Tryz.underlying247
  a35 := Tryz.isAgg247
  z35 := Tryz.sizeOf247
  v35 := Tryz.zeroValue247
  t36 := Tryz.underlying248
  a36 := Tryz.isAgg248
  z36 := Tryz.sizeOf248
  v36 := Tryz.zeroValue248
  t41 := Tryz.underlying187
  a41 := Tryz.isAgg187
  z41 := Tryz.sizeOf187
  v41 := Tryz.zeroValue187
  t44 := Tryz.underlying45
  a44 := Tryz.isAgg45
  z44 := Tryz.sizeOf45
  v44 := Tryz.zeroValue45
  t46 := Tryz.underlying123
  a46 := Tryz.isAgg123
  z46 := Tryz.sizeOf123
  v46 := Tryz.zeroValue123
  t53 := Tryz.underlying281
  a53 := Tryz.isAgg281
  z53 := Tryz.sizeOf281
  v53 := Tryz.zeroValue281
  t57 := Tryz.underlying284
  a57 := Tryz.isAgg284
  z57 := Tryz.sizeOf284
  v57 := Tryz.zeroValue284
  t63 := Tryz.underlying298
  a63 := Tryz.isAgg298
  z63 := Tryz.sizeOf298
  v63 := Tryz.zeroValue298
  t64 := Tryz.underlying299
  a64 := Tryz.isAgg299
  z64 := Tryz.sizeOf299
  v64 := Tryz.zeroValue299 }
end Go.Proofs


/-
  What Names gives at a map: its keys, sorted, in a new slice; nil where it has none; nothing that was there has changed. Conditions: the disk's second cell holds the map; it has few keys.
-/
namespace Go.Proofs
open Go.RowKit Go.Maps Go.Sort Go.Shelf

theorem Tryz.sortsA (m : Nat) : AnyZ.SortsIn Tryz.prog Tryz.sortedA_ren Fence.wide m :=
  ⟨fun blk off cap ss W hH hblk hsz => callsIn_wide.2 (AnyM.slices_Sort_string Tryz.sortA blk off cap ss W hH hblk hsz),
   fun p cap W => callsIn_wide.2 (AnyM.slices_Sort_string_none Tryz.sortA p cap W)⟩

set_option maxHeartbeats 1000000 in
theorem Tryz.kept_calls {H : Type} (rb ro b nn : Nat) (D0 : DataW H) (R : Value → Option (DataW H × List MemPlace)) (w : World) (hc : w.cell? ⟨rb, ro + 1, none⟩ = some (.map (some b))) (hown : w.ownsMap Tryz.prog 9 R b nn D0) (hmax : Maps.size D0 ≤ maxLen) (hbytes : Maps.size D0 * 16 ≤ 140737488355328) :
    Calls Tryz.prog 29 #[.pointer (some ⟨rb, ro, none⟩)] w fun e w' => ∃ (v : Value) (ss : List (List UInt8)), e = .returned v ∧ ss.Perm (strKeys D0) ∧
      w'.ownsRow w.heap.size 9 1 v ss.length ((ss.mergeSort (fun x y => decide (x ≤ y))).map encStr) ∧ (v = .slice none 0 0 ↔ ss = []) ∧ Below w.heap.size w w' := by
  refine (callsIn_wide (n := 6)).1 ?_
  have hbl := hown.lt
  have hseq : SeqGives Fence.wide 2 Tryz.prog 125 #[.pointer (some ⟨w.heap.size, 0, none⟩)] encStr (fun ss => ss.Perm (strKeys D0)) (Maps.size D0) (w.alloc (.cells #[.map (some b)] 81)) :=
    AnyZ.keys_gives (ρ := Tryz.keysA_ren) { Tryz.keysA with } Fence.wide _ trivial rfl (by omega) w.heap.size b nn D0 _ (by simp) (by simp) (by
      obtain ⟨es, clock, hb, Ft, hs, hD⟩ := hown
      exact ⟨es, clock, (Below.heap_alloc _ _ b hbl).trans hb, Ft, hs, hD⟩)
  have cK : ∀ mb W, CallsIn Fence.wide 5 Tryz.prog 83 #[.map mb] W fun e w' => e = .returned (.func (.func 125) #[] #[.pointer (some ⟨W.heap.size, 0, none⟩)]) ∧ w' = W.alloc (.cells #[.map mb] 81) := fun mb W => AnyZ.keys_in Tryz.keysA Fence.wide 5 trivial rfl mb W
  have cS := AnyZ.sorted_in Tryz.sortedA Fence.wide 5 trivial trivial trivial trivial rfl (by omega) (Tryz.sortsA _) (enters_of Tryz.func124 (by kernel_rfl) rfl) 125 #[.pointer (some ⟨w.heap.size, 0, none⟩)] trivial (enters_of Tryz.func125 (by kernel_rfl) rfl) _ _ hmax hbytes _ hseq
  change CallsIn _ _ Tryz.prog 82 _ _ _ at cS
  have hfK : Fence.wide.fn 83 := trivial
  have hfS : Fence.wide.fn 82 := trivial
  refine callsIn_of_wp Tryz.func29 rfl trivial ?_ rfl
  simp only [Tryz.ntmps29, List.size_toArray, List.length_cons, List.length_nil, Nat.reduceAdd, Nat.reduceSub, Array.replicate_succ, Array.replicate_zero, List.push_toArray, List.append_toArray, List.nil_append, List.cons_append]
  gi_wp2_with (first
    | (gi_at_call 83; refine (cK _ _).mono ?_; rintro e w' ⟨rfl, rfl⟩)
    | (gi_at_call 82; refine cS.mono ?_; rintro e w' ⟨v, ss, rfl, hS, hrow, hnil, hb⟩))
  go_ret
  exact ⟨v, ss, rfl, hS, ownsRow_base_a hrow (by simp), hnil, ((Below.refl _ w).alloc (Nat.le_refl _) _).trans (hb.mono (by simp))⟩
end Go.Proofs


/-
  What stands for Names in our runs is what Names does. No conditions.
-/
namespace Go.Proofs.YtbohejffelipoaaGreatDoor
open Go Go.Abs Go.Abs.F
open Go.WideElems (Fit rd rg)
set_option linter.unusedVariables false

theorem names_shape {f : FuncId} {ts : List T} {σ τ : St} {t : T} (h : namesP f ts σ = some (t, τ)) :
    f = 29 ∧ ∃ i o own vs m es ks, ts = [Z (.ptr i o)] ∧ σ.get i = some (.cells own vs) ∧ vs[o + 1]? = some (.map m) ∧ σ.get m = some (.map es) ∧ es.length ≤ 1000 ∧ nkeysOf es = some ks ∧
      ((ks = [] ∧ t = Z .nils ∧ τ = σ) ∨ (ks ≠ [] ∧ t = Z (.sl σ.size 0 ks.length (.grown 1)) ∧ τ = σ.push (.cells false ((nsorted ks).map S.str)))) := by
  unfold namesP at h
  split at h
  · cases h
  · rename_i hf
    refine ⟨Nat.eq_of_beq_eq_true hf, ?_⟩
    split at h
    · rename_i i o
      split at h
      · rename_i own vs hi
        split at h
        · rename_i m hm
          split at h
          · rename_i es hes
            split at h
            · rename_i hl hk
              cases h
              exact ⟨i, o, own, vs, m, es, _, rfl, hi, hm, hes, Nat.le_of_ble_eq_true hl, hk, .inl ⟨rfl, rfl, rfl⟩⟩
            · rename_i k l hl hk
              cases h
              exact ⟨i, o, own, vs, m, es, _, rfl, hi, hm, hes, Nat.le_of_ble_eq_true hl, hk, .inr ⟨by simp, rfl, rfl⟩⟩
            · cases h
          · cases h
        · cases h
      · cases h
    · cases h

theorem owns_map {ι : Inj} {w : World} {L : Abs.Loc} {es : List (S × V)} {ks : List (List UInt8)} (hb : BlkRel ι L w (.map es)) (hk : nkeysOf es = some ks) (hl : es.length ≤ 1000) :
    ∃ D0 : DataW Unit, w.ownsMap Tryz.prog 9 (fun _ => some (.nil, [])) L.b 1000 D0 ∧ (strKeys D0).Perm ks ∧ Maps.size D0 ≤ 1000 := by
  obtain ⟨mes, clk, h1, h2, h3, h4⟩ := hb
  obtain ⟨k1, k2, k3⟩ := nkeysOf_facts hk
  have hlen : mes.size = es.length := by rw [← Array.length_toList, ← forall2_length h2]
  have hkeys : mes.toList.map (·.key) = ks.map encStr := by
    have : ∀ {es : List (S × V)} {l : List MapEntry} {ks : List (List UInt8)}, All2 (EntRel ι) es l → es.map (·.1) = ks.map S.str → l.map (·.key) = ks.map encStr := by
      intro es l ks h
      induction h generalizing ks with
      | nil => intro e; cases ks with
        | nil => rfl
        | cons _ _ => simp at e
      | cons a b ih =>
        intro e
        cases ks with
        | nil => simp at e
        | cons k ks =>
          simp only [List.map_cons, List.cons.injEq] at e ⊢
          refine ⟨?_, ih e.2⟩
          have := a.1
          rw [e.1] at this
          obtain ⟨s, hs, hl⟩ := this
          rw [hs]
          show Value.string s = Value.string ⟨k.toArray⟩
          rw [← hl]
    exact this h2 k1
  have hrd : ∀ x ∈ mes.toList, ∃ n, n ∈ ks ∧ x.key = encStr n ∧ rd (H := Unit) Tryz.prog 9 (fun _ => some (.nil, [])) x = some (.string n, .nil) := by
    intro x hx
    have : x.key ∈ ks.map encStr := by rw [← hkeys]; exact List.mem_map_of_mem hx
    obtain ⟨n, hn, e⟩ := List.mem_map.1 this
    refine ⟨n, hn, e.symm, ?_⟩
    unfold rd
    rw [← e, Go.WideMaps.keyOf_string_mk Tryz.underlying9 (by have := k3 n hn; exact Nat.le_trans (by simpa [ByteArray.size] using this) (by decide))]
    simp
  refine ⟨_, ⟨mes, clk, h1, ⟨by rw [hlen]; exact Nat.le_trans hl (by decide), ⟨h4, ?_, ?_⟩, fun x hx => ?_⟩, by omega, rfl⟩, ?_, ?_⟩
  · rw [List.nodup_iff_pairwise_ne, List.pairwise_map]
    exact h3.imp fun h => by omega
  · rw [hkeys]
    rw [List.nodup_iff_pairwise_ne, List.pairwise_map]
    exact (List.nodup_iff_pairwise_ne.1 k2).imp fun h e => h (by simpa using e)
  · obtain ⟨n, _, _, h⟩ := hrd x hx
    exact ⟨_, h⟩
  · show (List.map (fun p : Lit × DataW Unit => Go.strOf p.1) _).Perm ks
    refine ((WideShapes.sorted_perm _).map _).trans ?_
    rw [List.map_map]
    have : mes.toList.map ((fun p : Lit × DataW Unit => Go.strOf p.1) ∘ rg (H := Unit) Tryz.prog 9 (fun _ => some (.nil, []))) = ks := by
      have e1 : mes.toList.map ((fun p : Lit × DataW Unit => Go.strOf p.1) ∘ rg (H := Unit) Tryz.prog 9 (fun _ => some (.nil, []))) = mes.toList.map (fun x => match x.key with | .string s => s.data.toList | _ => []) := by
        apply List.map_congr_left
        intro x hx
        obtain ⟨n, _, hn, h⟩ := hrd x hx
        simp [rg, h, hn, Go.strOf]
      rw [e1]
      have e2 : mes.toList.map (fun x => match x.key with | .string s => s.data.toList | _ => []) = (mes.toList.map (·.key)).map (fun v => match v with | .string s => s.data.toList | _ => []) := by rw [List.map_map]; rfl
      rw [e2, hkeys, List.map_map]
      simp [Function.comp_def]
    rw [this]
  · show (List.foldr DataW.insert [] _).length ≤ 1000
    rw [(WideShapes.sorted_perm _).length_eq, List.length_map, Array.length_toList]
    omega

theorem namesP_sound : CallSound Tryz.prog namesP := by
  constructor
  · intro f ts σ t τ h wf
    obtain ⟨_, i, o, own, vs, m, es, ks, _, _, _, _, _, _, h | h⟩ := names_shape h
    · obtain ⟨_, _, rfl⟩ := h
      exact ⟨wf, Nat.le_refl _⟩
    · obtain ⟨_, _, rfl⟩ := h
      exact ⟨St.wf_push wf _, by simp⟩
  · intro f ts σ t τ h wf ι w vs hR hF hA
    obtain ⟨rfl, i, o, own, cs, m, es, ks, rfl, hi, hm, hes, hl, hk, h⟩ := names_shape h
    cases hA with
    | cons a b =>
    cases b
    obtain ⟨L, hL, rfl⟩ := a
    obtain ⟨c, e, fz, h1, h2, h3, h4, h5⟩ := hR.blk i L _ hL hi
    obtain ⟨v, hv, hr⟩ := h4 (o + 1) _ hm
    obtain ⟨M, hM, rfl⟩ := hr
    have hb := hR.blk m M _ hM hes
    obtain ⟨D0, hown, hp, hs⟩ := owns_map hb hk hl
    have hc : w.cell? ⟨L.b, L.base + o + 1, none⟩ = some (.map (some M.b)) := by
      unfold World.cell?
      simp only [h1]
      rw [Nat.add_assoc]
      simpa using hv
    refine (Tryz.kept_calls L.b (L.base + o) M.b 1000 D0 _ w hc hown (Nat.le_trans hs (by decide)) (by omega)).mono ?_
    rintro e' u ⟨v, ss, rfl, hss, hrow, hnil, hbel⟩
    have hperm := hss.trans hp
    have hmerge : ss.mergeSort (fun x y => decide (x ≤ y)) = nsorted ks := by
      rw [← nsorted_merge ks]
      exact mergeSort_of_perm hperm
    rw [hmerge] at hrow
    have hlen := hperm.length_eq
    rcases h with ⟨rfl, rfl, rfl⟩ | ⟨hne, rfl, rfl⟩
    · have : ss = [] := List.eq_nil_of_length_eq_zero (by simpa using hlen)
      refine ⟨ι, v, rfl, ⟨Nat.le_refl _, fun _ _ => rfl, fun _ _ h => h, fun _ _ h => h, fun _ _ _ => rfl, fun i L h1 h2 => by omega, hbel.os, hbel.output, hbel.size, fun k hk _ => hbel.block k hk⟩, ⟨fun i L b hi' hb' => ?_, hR.sep, hR.glob⟩, hnil.2 this⟩
      have hB := hR.blk i L b hi' hb'
      cases b with
      | dead => trivial
      | cells own vs => exact hB.congr (hbel.block _ (hB.lt trivial))
      | map es => exact hB.congr (hbel.block _ (hB.lt trivial))
      | glob g vs => exact hB.congr (hbel.block _ (hB.lt trivial))
    · have hssne : ss ≠ [] := fun e => hne (by rw [e] at hlen; exact List.eq_nil_of_length_eq_zero (by simpa using hlen.symm))
      rcases hrow.2 with ⟨e, _⟩ | ⟨g, cap, cur, rfl, hg, hcur, hle, hcap, hsz, htk⟩
      · exact absurd (hnil.1 e) hssne
      have hsl : (nsorted ks).length = ks.length := (nsorted_perm' ks).length_eq
      let κ : Inj := fun j => if j = σ.size then some ⟨g, 0, cap, 0⟩ else ι j
      have hκ : ι.le κ := by
        intro j M hj
        have : j ≠ σ.size := fun e => by rw [hF j (by omega) (by simp; omega)] at hj; cases hj
        simp [κ, this, hj]
      have hnew : BlkRel κ ⟨g, 0, cap, 0⟩ u (.cells false ((nsorted ks).map S.str)) := by
        refine ⟨cur, _, (0, 0), hcur, by rw [hsz, Nat.mul_one], by simp [hsl, ← hlen]; exact hle, fun j x hx => ?_, fun e => by cases e⟩
        rw [List.getElem?_map, Option.map_eq_some_iff] at hx
        obtain ⟨n, hn, rfl⟩ := hx
        have hj : j < (nsorted ks).length := (List.getElem?_eq_some_iff.1 hn).1
        have e1 : (cur.toList.take (ss.length * 1))[j]? = some (encStr n) := by rw [htk, List.getElem?_map, hn]; rfl
        rw [List.getElem?_take, if_pos (by omega), Array.getElem?_toList] at e1
        exact ⟨_, by simpa using e1, ⟨_, rfl, by simp⟩⟩
      refine ⟨κ, _, rfl, ?_, ⟨fun j M b hj hb' => ?_, fun j k M N hj hk' hl' hh hjk => ?_, fun j n vs hg => ?_⟩, ?_⟩
      · refine ⟨by simp, fun j hj => ?_, fun j hj hl' => ?_, fun j hj hl' => ?_, fun j hj hn => ?_, fun j M h1 h2 hj _ => ?_, hbel.os, hbel.output, hbel.size, fun k hk' _ => hbel.block k hk'⟩
        · have : j ≠ σ.size := by simp at hj; omega
          simp [κ, this]
        · rwa [St.get_push_ne _ _ (by omega)] at hl'
        · rwa [St.get_push_ne _ _ (by omega)] at hl'
        · rw [St.get_push_ne _ _ (by omega)]
        · have : j = σ.size := by simp at h2; omega
          subst this
          simp [κ] at hj
          subst hj
          exact .inl hg
      · by_cases e : j = σ.size
        · subst e
          simp [κ] at hj
          subst hj
          rw [St.get_push_same] at hb'
          cases hb'
          exact hnew
        · simp [κ, e] at hj
          rw [St.get_push_ne _ _ e] at hb'
          have hB := (hR.blk j M b hj hb').mono hκ
          cases b with
          | dead => trivial
          | cells own vs => exact hB.congr (hbel.block _ (hB.lt trivial))
          | map es => exact hB.congr (hbel.block _ (hB.lt trivial))
          | glob g vs => exact hB.congr (hbel.block _ (hB.lt trivial))
      · have old : ∀ {j : Nat} {M : Abs.Loc}, j ≠ σ.size → κ j = some M → held ((σ.push (.cells false ((nsorted ks).map S.str))).get j) → M.b < w.heap.size := by
          intro j M e hj hh
          simp [κ, e] at hj
          rw [St.get_push_ne _ _ e] at hh
          cases hbj : σ.get j with
          | none => rw [hbj] at hh; exact hh.elim
          | some b => rw [hbj] at hh; exact (hR.blk j M b hj hbj).lt hh
        by_cases e1 : j = σ.size
        · subst e1
          have hb2 := old (fun e => hjk e.symm) hk' hh
          simp [κ] at hj
          subst hj
          intro e
          have : g = N.b := e
          omega
        · by_cases e2 : k = σ.size
          · subst e2
            have hb2 := old e1 hj hl'.held
            simp [κ] at hk'
            subst hk'
            intro e
            have : M.b = g := e
            omega
          · simp [κ, e1] at hj
            simp [κ, e2] at hk'
            rw [St.get_push_ne _ _ e1] at hl'
            rw [St.get_push_ne _ _ e2] at hh
            exact hR.sep j k M N hj hk' hl' hh hjk
      · by_cases e : j = σ.size
        · subst e
          rw [St.get_push_same] at hg
          cases hg
        · rw [St.get_push_ne _ _ e] at hg
          obtain ⟨L, hL⟩ := hR.glob j n vs hg
          exact ⟨L, hκ j L hL⟩
      · refine ⟨⟨g, 0, cap, 0⟩, cap, by simp [κ], ?_, by rw [← hlen]; exact hle, by simp⟩
        rw [hlen]

end Go.Proofs.YtbohejffelipoaaGreatDoor


/-
  What our runs ask first is what the program does. No conditions.
-/
namespace Go.Proofs.YtbohejffelipoaaGreatDoor
open Go Go.Abs Go.Abs.F
set_option linter.unusedVariables false

theorem prim1_sound : CallSound Tryz.prog prim1 := by
  refine orP_sound (orP_sound (ixP_sound ?_ ?_) (joinP_sound ?_ ?_)) (pureP_sound (runQ_sound noPrim_sound 64 8) _)
  · intro f hf s c w
    have : f = 247 ∨ f = 248 := by simpa [ixs] using hf
    rcases this with rfl | rfl
    · exact Tryz.strings_Index_one s c w
    · exact Tryz.stringslite_Index_one s c w
  · exact fun s c w => Tryz.strings_Count_one s c w
  · exact fun a c sep w => Tryz.strings_Join_none a c sep w
  · exact fun bk o c xs sep w h1 h2 h3 h4 h5 => Tryz.strings_Join bk o c xs sep w h1 h2 h3 h4 h5

theorem prim3_sound : CallSound Tryz.prog prim3 := orP_sound namesP_sound (orP_sound (orP_sound (pureP_sound (runQ_sound noPrim_sound 64 16) _) (orP_sound del_sound ins_sound)) prim1_sound)
set_option maxRecDepth 100000 in
theorem told12_all : gave true (runQ Tryz.prog 64 prim3 20 7 [] St.empty) = true := by kernel_rfl
theorem prim_sound : CallSound Tryz.prog prim := orP_sound (toldP_sound (runQ_sound prim3_sound 64 20) told12_all) prim3_sound
end Go.Proofs.YtbohejffelipoaaGreatDoor

