/-
  Frames: what log.Open, Frame, All, Read, Meet and Front compute, in any store. No conditions but those named in each line.
-/
import Derived.Test.YtlhbidbdmdcdeaaGreatDoorLog1
namespace Go.Proofs.YtlhbidbdmdcdeaaGreatDoor
open Go Go.Abs Go.Abs.F
set_option linter.unusedVariables false
section
variable {s t : St} {x y : S} {bs cs : Bs} {i : Nat} {l m : List Ent}

theorem wrapB_len (b : Bs) : (wrapB b).length ≤ b.length + 15 := by
  have := vput_len b.length
  simp [wrapB, four]
  omega

theorem getN_few0 {bs : Bs} {at_ : Nat} : ∀ (f k n : Nat) {r : Nat × Nat}, getN bs at_ f k n = some r → r.2 ≤ at_ + k + f := by
  intro f
  induction f with
  | zero => intro k n r h; cases h
  | succ f ih =>
    intro k n r h
    unfold getN at h
    split at h
    · cases h
    · split at h
      · cases h
      · split at h
        · have := ih _ _ h
          omega
        · split at h
          · cases h
          · cases h
            show at_ + k + 1 ≤ _
            omega
theorem getN_few {bs : Bs} {at_ n to : Nat} (h : vget bs at_ = some (n, to)) : to ≤ at_ + 10 := by
  unfold vget at h
  split at h
  · have := getN_few0 _ _ _ h
    simpa using this
  · cases h

abbrev resO (y : S) (at_ : Nat) (o : Option (Bs × Nat)) : T := match o with
  | some (p, e) => .tup [.s y, .s (.int .i64 (e : Nat)), .s (.bool true)]
  | none => .tup [.s .nils, .s (.int .i64 (at_ : Nat)), .s (.bool false)]

theorem open_run (d : Nat) (wf : s.wf) (h : RB s x bs) (hox : ∀ c, own x = some c → c < s.size) (hl : bs.length ≤ 100000) {at_ : Nat} (ha : at_ ≤ bs.length) (hsm : ∀ n to, vget bs at_ = some (n, to) → bs.length - to - 4 < n ∨ n ≤ 7900) :
    ∃ y t, R (d + 4) 41 [Z x, I .i64 (at_ : Nat)] s = some (resO y at_ (openB bs at_), t) ∧ Gr s t ∧ ∀ p e, openB bs at_ = some (p, e) → RB t y p ∧ (∀ c, own y = some c → c < t.size) ∧ e ≤ bs.length ∧ p.length ≤ 7900 := by
  rw [f41_run]
  unfold f41
  have hll := h.lenB
  have e1 := vget_run (d + 2) h hl (at_ := at_) (by omega)
  simp only [Nat.add_assoc, Nat.reduceAdd] at e1
  cases hv : vget bs at_ with
  | none =>
    rw [hv] at e1
    simp only [vres, if_pos ha] at e1
    have ho : openB bs at_ = none := by unfold openB; rw [hv]
    rw [ho]
    refine ⟨.nils, s, ?_, Gr.refl wf, fun p e hh => by cases hh⟩
    simp [e1, aExtract, gtt, retT, allV]
  | some p =>
    obtain ⟨n, to⟩ := p
    rw [hv] at e1
    simp only [vres] at e1
    obtain ⟨hv1, hv2⟩ := vget_lt hv
    have hsn := hsm n to hv
    have w1 : IntKind.i64.wrap ((bs.length : Int) - ((to : Nat) : Int)) = (bs.length : Int) - ((to : Nat) : Int) := wrap_in _ (by omega) (by omega)
    by_cases c1 : bs.length < to + 4
    · have ho : openB bs at_ = none := by unfold openB; rw [hv]; simp only; rw [if_pos (.inl c1)]
      rw [ho]
      have k1 : (bs.length : Int) - ((to : Nat) : Int) < 4 := by omega
      refine ⟨.nils, s, ?_, Gr.refl wf, fun p e hh => by cases hh⟩
      simp [e1, aExtract, hll, w1, k1, gtt, retT, allV]
    · have k1 : ¬ (bs.length : Int) - ((to : Nat) : Int) < 4 := by omega
      have w2 : IntKind.i64.wrap ((bs.length : Int) - ((to : Nat) : Int) - 4) = (bs.length : Int) - ((to : Nat) : Int) - 4 := wrap_in _ (by omega) (by omega)
      have w3 : IntKind.u64.wrap ((bs.length : Int) - ((to : Nat) : Int) - 4) = (bs.length : Int) - ((to : Nat) : Int) - 4 := wrap_u64_in _ (by omega) (by omega)
      by_cases c2 : bs.length - to - 4 < n
      · have ho : openB bs at_ = none := by unfold openB; rw [hv]; simp only; rw [if_pos (.inr c2)]
        rw [ho]
        have k2 : (bs.length : Int) - ((to : Nat) : Int) - 4 < ((n : Nat) : Int) := by omega
        refine ⟨.nils, s, ?_, Gr.refl wf, fun p e hh => by cases hh⟩
        simp [e1, aExtract, hll, w1, k1, w2, w3, k2, retT, allV]
      · have k2 : ¬ (bs.length : Int) - ((to : Nat) : Int) - 4 < ((n : Nat) : Int) := by omega
        have w4 : IntKind.i64.wrap (((to : Nat) : Int) + 4) = ((to + 4 : Nat) : Int) := by rw [wrap_in _ (by omega) (by omega)]; omega
        have w5 : IntKind.i64.wrap ((n : Nat) : Int) = ((n : Nat) : Int) := wrap_in _ (by omega) (by omega)
        have w6 : IntKind.i64.wrap (((to + 4 : Nat) : Int) + ((n : Nat) : Int)) = ((to + 4 + n : Nat) : Int) := by rw [wrap_in _ (by omega) (by omega)]; omega
        have piece : ∀ lo hi : Nat, lo ≤ hi → hi ≤ bs.length → ∃ y, aPieceSl 1 (Z x) (some (I .i64 (lo : Nat))) (some (I .i64 (hi : Nat))) none = some (Z y) ∧ RB s y ((bs.drop lo).take (hi - lo)) ∧ (own y = none ∨ own y = own x) := fun lo hi h1 h2 => by
          obtain ⟨y, a, b, c⟩ := Rd.piece h (lo := lo) (hi := hi) h1 h2
          refine ⟨y, a, ?_, c⟩
          rw [Nat.mul_one, Nat.mul_one, U_drop, U_take] at b
          have : ((bs.drop lo).take (hi - lo)).length = hi - lo := by rw [List.length_take, List.length_drop]; omega
          unfold RB
          rw [this]
          exact b
        obtain ⟨y1, p1, r1, o1⟩ := piece (to + 4) (to + 4 + n) (by omega) (by omega)
        obtain ⟨y2, p2, r2, o2⟩ := piece at_ (to + 4 + n) (by omega) (by omega)
        rw [show to + 4 + n - (to + 4) = n by omega] at r1
        have hn7 : n ≤ 7900 := hsn.resolve_left c2
        have hpl : ((bs.drop (to + 4)).take n).length ≤ 7900 := by rw [List.length_take]; omega
        have ho1 : ∀ c, own y1 = some c → c < s.size := fun c hc => by
          rcases o1 with e | e
          · rw [e] at hc; cases hc
          · rw [e] at hc; exact hox c hc
        have ho2 : ∀ c, own y2 = some c → c < s.size := fun c hc => by
          rcases o2 with e | e
          · rw [e] at hc; cases hc
          · rw [e] at hc; exact hox c hc
        obtain ⟨z, t, e3, f3⟩ := wrap_run d wf r1 ho1 (by omega)
        have r2' : RB t y2 ((bs.drop at_).take (to + 4 + n - at_)) := r2.gr ho2 f3.gr
        have eq : R (d + 3) 70 [Z y2, Z z] t = some (B (decide ((bs.drop at_).take (to + 4 + n - at_) = wrapB ((bs.drop (to + 4)).take n))), t) := by
          by_cases hlong : ((bs.drop at_).take (to + 4 + n - at_)).length ≤ 8000
          · exact equal_run (d + 2) r2' f3.rd hlong
          · exfalso
            rw [List.length_take, List.length_drop] at hlong
            have := getN_few hv
            omega
        have hop : openB bs at_ = if (bs.drop at_).take (to + 4 + n - at_) = wrapB ((bs.drop (to + 4)).take n) then some ((bs.drop (to + 4)).take n, to + 4 + n) else none := by
          unfold openB
          rw [hv]
          simp only
          rw [if_neg (fun hh => hh.elim c1 c2)]
        rw [hop]
        by_cases he : (bs.drop at_).take (to + 4 + n - at_) = wrapB ((bs.drop (to + 4)).take n)
        · rw [if_pos he]
          rw [decide_eq_true he] at eq
          refine ⟨y1, t, ?_, f3.gr, fun p e hh => by
            cases hh
            exact ⟨r1.gr ho1 f3.gr, fun c hc => Nat.lt_of_lt_of_le (ho1 c hc) f3.gr.2.1, by omega, hpl⟩⟩
          show _ = some (T.tup [.s y1, .s (.int .i64 ((to + 4 + n : Nat) : Int)), .s (.bool true)], t)
          generalize ((to + 4 + n : Nat) : Int) = E1 at *
          generalize ((to + 4 : Nat) : Int) = E0 at *
          generalize R (d + 3) = r at *
          simp [e1, aExtract, hll, w1, k1, w2, w3, k2, w4, w5, w6, p1, p2, e3, eq, retT, allV]
        · rw [if_neg he]
          rw [decide_eq_false he] at eq
          refine ⟨y1, t, ?_, f3.gr, fun p e hh => by cases hh⟩
          generalize ((to + 4 + n : Nat) : Int) = E1 at *
          generalize ((to + 4 : Nat) : Int) = E0 at *
          generalize R (d + 3) = r at *
          simp [e1, aExtract, hll, w1, k1, w2, w3, k2, w4, w5, w6, p1, p2, e3, eq, retT, allV]

abbrev resF (y : S) (o : Option Bs) : T := match o with
  | some b => .tup [.s y, .s (.int .i64 0)]
  | none => .tup [.s .nils, .s (.int .i64 1)]

theorem frame_run (d : Nat) (wf : s.wf) (e : Ent) (hw : EWf e) : ∃ y t, R (d + 10) 14 [AE e] s = some (resF y (frameE e), t) ∧ Gr s t ∧ ∀ b, frameE e = some b → FB s t y b := by
  rw [f14_run]
  unfold f14
  obtain ⟨s1, hs1⟩ : ∃ s1, s1 = s.push (.cells true (cE e)) := ⟨_, rfl⟩
  have nw1 : aNew s (nBox (AE e)) = some (Z (.ptr s.size 0), s1) := by rw [hs1]; rfl
  have g1 : Gr s s1 := by rw [hs1]; exact Gr.push wf _
  have h1 : s1.get s.size = some (.cells true (cE e)) := by rw [hs1]; exact St.get_push_same _ _
  have l8 := load8 (g := s1.get) h1
  cases hm : mayE e with
  | false =>
    obtain ⟨s2, e2, g2⟩ := put_bad d g1.wf hm
    have hf : frameE e = none := by simp [frameE, hm]
    rw [hf]
    refine ⟨.nils, s2, ?_, g1.trans g2, fun b hb => by cases hb⟩
    simp [nw1, l8, e2, aExtract, retT, allV]
  | true =>
    obtain ⟨y, s2, e2, f2⟩ := put_run d g1.wf hm hw
    obtain ⟨z, s3, e3, f3⟩ := wrap_run (d + 6) f2.gr.wf f2.rd (fun c hc => (f2.new c hc).2) (by have := putB_len (mayE_x hm); omega)
    have hf : frameE e = some (wrapB (putB e)) := by simp [frameE, hm]
    rw [hf]
    refine ⟨z, s3, ?_, (g1.trans f2.gr).trans f3.gr, fun b hb => by cases hb; exact f3.from (g1.trans f2.gr)⟩
    simp only [Nat.add_assoc, Nat.reduceAdd] at e3
    simp [nw1, l8, e2, aExtract, e3, retT, allV]

theorem frameE_len {e : Ent} {b : Bs} (h : frameE e = some b) : b.length ≤ 415 := by
  unfold frameE at h
  split at h
  · rename_i hm
    cases h
    have := putB_len (mayE_x hm)
    have := wrapB_len (putB e)
    omega
  · cases h

theorem framesB_snoc : ∀ (l : List Ent) (e : Ent), framesB (l ++ [e]) = framesB l ++ wrapB (putB e)
  | [], e => by simp [framesB]
  | a :: r, e => by simp [framesB, framesB_snoc r e]

theorem all_take {l : List Ent} (k : Nat) (h : l.all mayE = true) : (l.take k).all mayE = true := by
  rw [List.all_eq_true] at h ⊢
  exact fun x hx => h x (List.mem_of_mem_take hx)

theorem all_split (l : List Ent) (k : Nat) (e : Ent) (hk : l[k]? = some e) (h : (l.take k).all mayE = true) : (mayE e = false → l.all mayE = false) ∧ (mayE e = true → (l.take (k + 1)).all mayE = true) := by
  constructor
  · intro he
    rw [Bool.eq_false_iff]
    intro ha
    rw [List.all_eq_true] at ha
    rw [ha e (List.mem_of_getElem? hk)] at he
    cases he
  · intro he
    rw [List.take_add_one, hk, Option.toList_some, List.all_append, h]
    simp [he]

theorem framesB_len : ∀ l : List Ent, l.all mayE = true → (framesB l).length ≤ 415 * l.length
  | [], _ => by simp [framesB]
  | e :: r, h => by
    simp only [List.all_cons, Bool.and_eq_true] at h
    have h1 := framesB_len r h.2
    have h2 : (wrapB (putB e)).length ≤ 415 := frameE_len (e := e) (by simp [frameE, h.1])
    simp [framesB]
    omega

abbrev resA (y : S) (p : Bs × Int) : T := .tup [.s y, .s (.int .i64 p.2)]

theorem all_run (d : Nat) (wf : s.wf) (h : RE s x l) (hox : ∀ c, own x = some c → c < s.size) (hw : ∀ e ∈ l, EWf e) (hl : l.length ≤ 2400) : ∃ y t, R (d + 11) 15 [Z x] s = some (resA y (allP l), t) ∧ FB s t y (allP l).1 := by
  rw [f15_run]
  unfold f15
  have hll := h.lens
  -- one element, copied and framed
  have step : ∀ (u : St) (k : Nat), Gr s u → ∀ (hk : k < l.length), ∃ p u1, (aIndexSl 8 (Z x) (I .i64 (k : Nat)) = some p ∧ aLoadN 8 p u.get = some (AE l[k])) ∧
      (∃ u0, aNew u (nCells [.int .i64 0, .int .i64 0, .int .i64 0, .int .i64 0, .int .i64 0, .int .i64 0, .int .u32 0, .str []]) = some (Z (.ptr u.size 0), u0) ∧ aStore 8 (Z (.ptr u.size 0)) (AE l[k]) u0 = some (tt, u1)) ∧ aLoadN 8 (Z (.ptr u.size 0)) u1.get = some (AE l[k]) ∧ Gr u u1 := fun u k g hk => by
    have hr : RE u x l := h.gr hox g
    obtain ⟨p, ix, ld⟩ := RE.atE hr (n := ((k : Nat) : Int)) rfl (List.getElem?_eq_getElem hk)
    obtain ⟨u0, hu0⟩ : ∃ u0, u0 = u.push (.cells true (cE ent0)) := ⟨_, rfl⟩
    have b0 : u0.get u.size = some (.cells true (cE ent0)) := by rw [hu0]; exact St.get_push_same _ _
    have st := store8 (e := l[k]) b0 rfl
    have g0 : Gr u u0 := by rw [hu0]; exact Gr.push g.wf _
    refine ⟨p, _, ⟨ix, ld⟩, ⟨u0, by rw [hu0]; rfl, st⟩, load8 (St.get_set_same _ _ _), ⟨St.wf_set g0.wf (by rw [hu0]; simp) _, by simpa using g0.2.1, fun b hb => by rw [St.get_set_ne _ _ (by omega)]; exact g0.2.2 b hb⟩⟩
  by_cases hbig : 2000 < l.length
  · have c0 : (2000 : Int) < (l.length : Int) := by omega
    obtain ⟨j, τ, lp, hj, gτ⟩ := loops_inv (f := f15_l1 (R (d + 10)) 8192) (fun q v u => ∃ k : Nat, q + k = l.length ∧ v = [Z x, I .i64 l.length, I .i64 k] ∧ Gr s u ∧ (l.take k).all mayE = true)
      (fun j u => (j = .exit 0 [] ∧ l.all mayE = true ∨ j = .ret (.tup [.s .nils, .s (.int .i64 1)]) ∧ l.all mayE = false) ∧ Gr s u) (by
      rintro q v u ⟨k, hk, rfl, g, ha⟩
      by_cases hkl : k < l.length
      · obtain ⟨p, u1, ⟨ix, ld⟩, ⟨u0, nw, st⟩, ld2, g1⟩ := step u k g hkl
        have hm := all_split l k l[k] (List.getElem?_eq_getElem hkl) ha
        obtain ⟨y, u2, e2, g2, f2⟩ := frame_run d (g.trans g1).wf l[k] (hw _ (List.getElem_mem hkl))
        have c1 : (k : Int) < (l.length : Int) := by omega
        have w1 : IntKind.i64.wrap ((k : Int) + 1) = ((k + 1 : Nat) : Int) := by rw [wrap_in _ (by omega) (by omega)]; omega
        cases hme : mayE l[k] with
        | true =>
          left
          have hf : frameE l[k] = some (wrapB (putB l[k])) := by simp [frameE, hme]
          rw [hf] at e2
          refine ⟨[Z x, I .i64 l.length, I .i64 ((k + 1 : Nat) : Int)], u2, q - 1, ?_, by omega, k + 1, by omega, rfl, (g.trans g1).trans g2, hm.2 hme⟩
          unfold f15_l1
          generalize ((k + 1 : Nat) : Int) = K1 at w1 ⊢
          generalize (k : Int) = K at *
          generalize (l.length : Int) = L at *
          generalize R (d + 10) = r at *
          simp [c1, ix, ld, nw, st, ld2, e2, aExtract, w1]
        | false =>
          right
          have hf : frameE l[k] = none := by simp [frameE, hme]
          rw [hf] at e2
          refine ⟨.ret (.tup [.s .nils, .s (.int .i64 1)]), u2, ?_, (fun v hv => by cases hv), .inr ⟨rfl, hm.1 hme⟩, (g.trans g1).trans g2⟩
          unfold f15_l1
          generalize (k : Int) = K at *
          generalize (l.length : Int) = L at *
          generalize R (d + 10) = r at *
          simp [c1, ix, ld, nw, st, ld2, e2, aExtract, retT, allV]
      · right
        have hk' : k = l.length := by omega
        subst hk'
        rw [List.take_length] at ha
        refine ⟨.exit 0 [], u, ?_, (fun v hv => by cases hv), .inl ⟨rfl, ha⟩, g⟩
        unfold f15_l1
        simp) 8192 l.length [Z x, I .i64 l.length, I .i64 0] s ⟨0, rfl, rfl, Gr.refl wf, by simp⟩ (by omega)
    have fn : FB s τ .nils [] := ⟨gτ, by simpa [U] using Ow.nil 1 τ, fun c hc => by cases hc⟩
    rcases hj with ⟨rfl, ha⟩ | ⟨rfl, ha⟩
    · have hp : allP l = ([], 8) := by unfold allP; rw [if_pos ha, if_neg (by omega)]
      rw [hp]
      refine ⟨.nils, τ, ?_, fn⟩
      generalize (l.length : Int) = L at *
      simp [hll, c0, lp, retT, allV]
    · have hp : allP l = ([], 1) := by unfold allP; rw [if_neg (by simp [ha])]
      rw [hp]
      refine ⟨.nils, τ, ?_, fn⟩
      generalize (l.length : Int) = L at *
      simp [hll, c0, lp]
  · have c0 : ¬ (2000 : Int) < (l.length : Int) := by omega
    obtain ⟨j, τ, lp, hj⟩ := loops_inv (f := f15_l2 (R (d + 10)) 8192) (fun q v u => ∃ (k : Nat) (z : S), q + k = l.length ∧ v = [Z z, Z x, I .i64 l.length, I .i64 k] ∧ FB s u z (framesB (l.take k)) ∧ (l.take k).all mayE = true)
      (fun j u => (∃ z, j = .exit 2 [Z z] ∧ FB s u z (framesB l) ∧ l.all mayE = true) ∨ j = .ret (.tup [.s .nils, .s (.int .i64 1)]) ∧ l.all mayE = false ∧ Gr s u) (by
      rintro q v u ⟨k, z, hk, rfl, f, ha⟩
      by_cases hkl : k < l.length
      · obtain ⟨p, u1, ⟨ix, ld⟩, ⟨u0, nw, st⟩, ld2, g1⟩ := step u k f.gr hkl
        have hm := all_split l k l[k] (List.getElem?_eq_getElem hkl) ha
        obtain ⟨y, u2, e2, g2, f2⟩ := frame_run d (f.gr.trans g1).wf l[k] (hw _ (List.getElem_mem hkl))
        have c1 : (k : Int) < (l.length : Int) := by omega
        have w1 : IntKind.i64.wrap ((k : Int) + 1) = ((k + 1 : Nat) : Int) := by rw [wrap_in _ (by omega) (by omega)]; omega
        cases hme : mayE l[k] with
        | true =>
          left
          have hf : frameE l[k] = some (wrapB (putB l[k])) := by simp [frameE, hme]
          rw [hf] at e2
          have hfl := frameE_len hf
          have hal := framesB_len _ ha
          rw [List.length_take] at hal
          obtain ⟨z2, u3, ap, f3, _⟩ := FB.app ((f.gr' g1).gr' g2) (f2 _ hf).rd (by omega)
          have htk : l.take (k + 1) = l.take k ++ [l[k]] := by rw [List.take_add_one, List.getElem?_eq_getElem hkl]; rfl
          refine ⟨[Z z2, Z x, I .i64 l.length, I .i64 ((k + 1 : Nat) : Int)], u3, q - 1, ?_, by omega, k + 1, z2, by omega, rfl, by rw [htk, framesB_snoc]; exact f3, hm.2 hme⟩
          unfold f15_l2
          generalize ((k + 1 : Nat) : Int) = K1 at w1 ⊢
          generalize (k : Int) = K at *
          generalize (l.length : Int) = L at *
          generalize R (d + 10) = r at *
          simp [c1, ix, ld, nw, st, ld2, e2, aExtract, ap, w1]
        | false =>
          right
          have hf : frameE l[k] = none := by simp [frameE, hme]
          rw [hf] at e2
          refine ⟨.ret (.tup [.s .nils, .s (.int .i64 1)]), u2, ?_, (fun v hv => by cases hv), .inr ⟨rfl, hm.1 hme, (f.gr.trans g1).trans g2⟩⟩
          unfold f15_l2
          generalize (k : Int) = K at *
          generalize (l.length : Int) = L at *
          generalize R (d + 10) = r at *
          simp [c1, ix, ld, nw, st, ld2, e2, aExtract, retT, allV]
      · right
        have hk' : k = l.length := by omega
        subst hk'
        rw [List.take_length] at ha f
        refine ⟨.exit 2 [Z z], u, ?_, (fun v hv => by cases hv), .inl ⟨z, rfl, f, ha⟩⟩
        unfold f15_l2
        simp) 8192 l.length [Z .nils, Z x, I .i64 l.length, I .i64 0] s ⟨0, .nils, by omega, rfl, by simpa [framesB, FB, U] using Fr.nil 1 wf, by simp⟩ (by omega)
    rcases hj with ⟨z, rfl, f, ha⟩ | ⟨rfl, ha, g⟩
    · have hp : allP l = (framesB l, 0) := by unfold allP; rw [if_pos ha, if_pos (by omega)]
      rw [hp]
      refine ⟨z, τ, ?_, f⟩
      generalize (l.length : Int) = L at *
      simp [hll, c0, lp, retT, allV]
    · have hp : allP l = ([], 1) := by unfold allP; rw [if_neg (by simp [ha])]
      rw [hp]
      refine ⟨.nils, τ, ?_, ⟨g, by simpa [U] using Ow.nil 1 τ, fun c hc => by cases hc⟩⟩
      generalize (l.length : Int) = L at *
      simp [hll, c0, lp]

/-! ### Meet, Front -/

theorem meetP_le : ∀ a b : List Ent, meetP a b ≤ a.length ∧ meetP a b ≤ b.length
  | [], b => by simp [meetP]
  | a :: r, [] => by simp [meetP]
  | a :: r, b :: t => by
    have := meetP_le r t
    unfold meetP
    split <;> simp <;> omega

theorem meetP_drop (a b : List Ent) (k : Nat) (ha : k ≤ a.length) (hb : k ≤ b.length) (h : ∀ j, j < k → a[j]? = b[j]?) : meetP a b = k + meetP (a.drop k) (b.drop k) := by
  induction k generalizing a b with
  | zero => simp
  | succ k ih =>
    cases a with
    | nil => simp at ha
    | cons x a => cases b with
      | nil => simp at hb
      | cons y b =>
        have h0 := h 0 (by omega)
        simp at h0
        subst h0
        have := ih a b (by simpa using ha) (by simpa using hb) fun j hj => by simpa using h (j + 1) (by omega)
        show (if x = x then _ else _) = _
        rw [if_pos rfl, this, List.drop_succ_cons, List.drop_succ_cons]
        omega

theorem meet_run (d : Nat) (wf : s.wf) (h : RE s x l) (hox : ∀ c, own x = some c → c < s.size) (k : RE s y m) (hoy : ∀ c, own y = some c → c < s.size) (hl : l.length ≤ 8000) : ∃ t, R (d + 2) 25 [Z x, Z y] s = some (I .i64 (meetP l m : Nat), t) ∧ Gr s t := by
  rw [f25_run]
  unfold f25
  have hll := h.lens
  have kll := k.lens
  obtain ⟨j, τ, lp, hj, gτ⟩ := loops_inv (f := f25_l1 (R (d + 1)) 8192) (fun q v u => ∃ n : Nat, q + n = l.length ∧ n ≤ m.length ∧ v = [Z x, Z y, I .i64 n] ∧ Gr s u ∧ ∀ j, j < n → l[j]? = m[j]?)
    (fun j u => j = .exit 0 [I .i64 (meetP l m : Nat)] ∧ Gr s u) (by
    rintro q v u ⟨n, hn, hnm, rfl, g, heq⟩
    have hd := meetP_drop l m n (by omega) hnm heq
    have hmin : min ((l.length : Nat) : Int) ((m.length : Nat) : Int) = ((min l.length m.length : Nat) : Int) := by omega
    by_cases hc : n < l.length ∧ n < m.length
    · have hla : l[n]? = some l[n] := List.getElem?_eq_getElem hc.1
      have hma : m[n]? = some (m[n]'hc.2) := List.getElem?_eq_getElem hc.2
      obtain ⟨p, ix, ld⟩ := RE.atE (h.gr hox g) (n := (n : Int)) rfl hla
      obtain ⟨p', ix', ld'⟩ := RE.atE (k.gr hoy g) (n := (n : Int)) rfl hma
      obtain ⟨u1, e1, g1⟩ := same_run d g.wf l[n] (m[n]'hc.2)
      have c0 : (n : Int) < ((min l.length m.length : Nat) : Int) := by omega
      have hdl : l.drop n = l[n] :: l.drop (n + 1) := List.drop_eq_getElem_cons hc.1
      have hdm : m.drop n = (m[n]'hc.2) :: m.drop (n + 1) := List.drop_eq_getElem_cons hc.2
      by_cases he : l[n] = m[n]'hc.2
      · left
        have w1 : IntKind.i64.wrap ((n : Int) + 1) = ((n + 1 : Nat) : Int) := by rw [wrap_in _ (by omega) (by omega)]; omega
        rw [decide_eq_true he] at e1
        refine ⟨[Z x, Z y, I .i64 ((n + 1 : Nat) : Int)], u1, q - 1, ?_, by omega, n + 1, by omega, by omega, rfl, g.trans g1, fun j hj => ?_⟩
        · unfold f25_l1
          generalize ((n + 1 : Nat) : Int) = N1 at w1 ⊢
          generalize ((min l.length m.length : Nat) : Int) = MM at *
          generalize (n : Int) = NN at *
          generalize R (d + 1) = r at *
          simp [hll, kll, hmin, c0, ix, ix', ld, ld', e1, w1]
        · by_cases hjn : j = n
          · subst hjn; rw [hla, hma, he]
          · exact heq j (by omega)
      · right
        rw [decide_eq_false he] at e1
        have hm0 : meetP l m = n := by
          rw [hd, hdl, hdm]
          show n + (if l[n] = m[n]'hc.2 then _ else 0) = n
          rw [if_neg he]; rfl
        refine ⟨.exit 0 [I .i64 (meetP l m : Nat)], u1, ?_, (fun v hv => by cases hv), rfl, g.trans g1⟩
        unfold f25_l1
        rw [hm0]
        generalize ((min l.length m.length : Nat) : Int) = MM at *
        generalize (n : Int) = NN at *
        generalize R (d + 1) = r at *
        simp [hll, kll, hmin, c0, ix, ix', ld, ld', e1]
    · right
      have c0 : ¬ (n : Int) < ((min l.length m.length : Nat) : Int) := by omega
      have hm0 : meetP l m = n := by
        rw [hd]
        by_cases h1 : n = l.length
        · rw [h1, List.drop_length]; simp [meetP]
        · have : n = m.length := by omega
          rw [this, List.drop_length]
          cases l.drop m.length <;> simp [meetP]
      refine ⟨.exit 0 [I .i64 (meetP l m : Nat)], u, ?_, (fun v hv => by cases hv), rfl, g⟩
      unfold f25_l1
      rw [hm0]
      generalize ((min l.length m.length : Nat) : Int) = MM at *
      generalize (n : Int) = NN at *
      simp [hll, kll, hmin, c0, gtt]) 8192 l.length [Z x, Z y, I .i64 0] s ⟨0, rfl, by omega, rfl, Gr.refl wf, fun j hj => by omega⟩ (by omega)
  subst hj
  exact ⟨τ, by simp [lp], gτ⟩

theorem front_run (d : Nat) (wf : s.wf) (h : RE s x l) (hox : ∀ c, own x = some c → c < s.size) (k : RE s y m) (hoy : ∀ c, own y = some c → c < s.size) (hl : l.length ≤ 8000) : ∃ t, R (d + 3) 23 [Z x, Z y] s = some (B (decide (meetP l m = l.length)), t) ∧ Gr s t := by
  rw [f23_run]
  unfold f23
  obtain ⟨t, e1, g1⟩ := meet_run d wf h hox k hoy hl
  have hll := h.lens
  have hd : decide (((meetP l m : Nat) : Int) = ((l.length : Nat) : Int)) = decide (meetP l m = l.length) := decide_eq_decide.2 (by omega)
  refine ⟨t, ?_, g1⟩
  generalize ((meetP l m : Nat) : Int) = M at *
  generalize ((l.length : Nat) : Int) = L at *
  simp only [e1, bd2_some, hll, bd_some, eql_int, hd]
end
end Go.Proofs.YtlhbidbdmdcdeaaGreatDoor
