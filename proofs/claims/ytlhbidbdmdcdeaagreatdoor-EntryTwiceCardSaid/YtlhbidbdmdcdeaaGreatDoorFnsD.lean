/-
  Several texts in one: what functions that the law reaches compute. No conditions but those named in each line.
-/
import Derived.Test.YtlhbidbdmdcdeaaGreatDoorFnsC
import Derived.Test.YtlhbidbdmdcdeaaGreatDoorFnsA
import Derived.Shelf.Strings.OnBuilder
import Derived.Shelf.Strings.Search3
import Derived.Shelf.Strings.Count
import Derived.Test.YtlhbidbdmdcdeaaGreatDoorProg
/-
  Frames: what log.Open, Frame, All, Read, Meet and Front compute, in any store. No conditions but those named in each line.
-/
namespace Go.Proofs.YtlhbidbdmdcdeaaGreatDoor
open Go Go.Abs Go.Abs.F
set_option linter.unusedVariables false
section
variable {s t : St} {x y : S} {bs cs : Bs} {i : Nat} {l m : List Ent}

theorem wrapB_len (b : Bs) : (wrapB b).length ≤ b.length + 15 := by
  have := vput_len b.length
  simp [wrapB, four]
  omega

theorem getN_few0 {bs : Bs} {at_ : Nat} : ∀ (f k n : Nat) {r : Nat × Nat}, getN bs at_ f k n = some r → r.2 ≤ at_ + k + f := by
  intro f
  induction f with
  | zero => intro k n r h; cases h
  | succ f ih =>
    intro k n r h
    unfold getN at h
    split at h
    · cases h
    · split at h
      · cases h
      · split at h
        · have := ih _ _ h
          omega
        · split at h
          · cases h
          · cases h
            show at_ + k + 1 ≤ _
            omega
theorem getN_few {bs : Bs} {at_ n to : Nat} (h : vget bs at_ = some (n, to)) : to ≤ at_ + 10 := by
  unfold vget at h
  split at h
  · have := getN_few0 _ _ _ h
    simpa using this
  · cases h

abbrev resO (y : S) (at_ : Nat) (o : Option (Bs × Nat)) : T := match o with
  | some (p, e) => .tup [.s y, .s (.int .i64 (e : Nat)), .s (.bool true)]
  | none => .tup [.s .nils, .s (.int .i64 (at_ : Nat)), .s (.bool false)]

theorem open_run (d : Nat) (wf : s.wf) (h : RB s x bs) (hox : ∀ c, own x = some c → c < s.size) (hl : bs.length ≤ 100000) {at_ : Nat} (ha : at_ ≤ bs.length) (hsm : ∀ n to, vget bs at_ = some (n, to) → bs.length - to - 4 < n ∨ n ≤ 7900) :
    ∃ y t, R (d + 4) 41 [Z x, I .i64 (at_ : Nat)] s = some (resO y at_ (openB bs at_), t) ∧ Gr s t ∧ ∀ p e, openB bs at_ = some (p, e) → RB t y p ∧ (∀ c, own y = some c → c < t.size) ∧ e ≤ bs.length ∧ p.length ≤ 7900 := by
  rw [f41_run]
  unfold f41
  have hll := h.lenB
  have e1 := vget_run (d + 2) h hl (at_ := at_) (by omega)
  simp only [Nat.add_assoc, Nat.reduceAdd] at e1
  cases hv : vget bs at_ with
  | none =>
    rw [hv] at e1
    simp only [vres, if_pos ha] at e1
    have ho : openB bs at_ = none := by unfold openB; rw [hv]
    rw [ho]
    refine ⟨.nils, s, ?_, Gr.refl wf, fun p e hh => by cases hh⟩
    simp [e1, aExtract, gtt, retT, allV]
  | some p =>
    obtain ⟨n, to⟩ := p
    rw [hv] at e1
    simp only [vres] at e1
    obtain ⟨hv1, hv2⟩ := vget_lt hv
    have hsn := hsm n to hv
    have w1 : IntKind.i64.wrap ((bs.length : Int) - ((to : Nat) : Int)) = (bs.length : Int) - ((to : Nat) : Int) := wrap_in _ (by omega) (by omega)
    by_cases c1 : bs.length < to + 4
    · have ho : openB bs at_ = none := by unfold openB; rw [hv]; simp only; rw [if_pos (.inl c1)]
      rw [ho]
      have k1 : (bs.length : Int) - ((to : Nat) : Int) < 4 := by omega
      refine ⟨.nils, s, ?_, Gr.refl wf, fun p e hh => by cases hh⟩
      simp [e1, aExtract, hll, w1, k1, gtt, retT, allV]
    · have k1 : ¬ (bs.length : Int) - ((to : Nat) : Int) < 4 := by omega
      have w2 : IntKind.i64.wrap ((bs.length : Int) - ((to : Nat) : Int) - 4) = (bs.length : Int) - ((to : Nat) : Int) - 4 := wrap_in _ (by omega) (by omega)
      have w3 : IntKind.u64.wrap ((bs.length : Int) - ((to : Nat) : Int) - 4) = (bs.length : Int) - ((to : Nat) : Int) - 4 := wrap_u64_in _ (by omega) (by omega)
      by_cases c2 : bs.length - to - 4 < n
      · have ho : openB bs at_ = none := by unfold openB; rw [hv]; simp only; rw [if_pos (.inr c2)]
        rw [ho]
        have k2 : (bs.length : Int) - ((to : Nat) : Int) - 4 < ((n : Nat) : Int) := by omega
        refine ⟨.nils, s, ?_, Gr.refl wf, fun p e hh => by cases hh⟩
        simp [e1, aExtract, hll, w1, k1, w2, w3, k2, retT, allV]
      · have k2 : ¬ (bs.length : Int) - ((to : Nat) : Int) - 4 < ((n : Nat) : Int) := by omega
        have w4 : IntKind.i64.wrap (((to : Nat) : Int) + 4) = ((to + 4 : Nat) : Int) := by rw [wrap_in _ (by omega) (by omega)]; omega
        have w5 : IntKind.i64.wrap ((n : Nat) : Int) = ((n : Nat) : Int) := wrap_in _ (by omega) (by omega)
        have w6 : IntKind.i64.wrap (((to + 4 : Nat) : Int) + ((n : Nat) : Int)) = ((to + 4 + n : Nat) : Int) := by rw [wrap_in _ (by omega) (by omega)]; omega
        have piece : ∀ lo hi : Nat, lo ≤ hi → hi ≤ bs.length → ∃ y, aPieceSl 1 (Z x) (some (I .i64 (lo : Nat))) (some (I .i64 (hi : Nat))) none = some (Z y) ∧ RB s y ((bs.drop lo).take (hi - lo)) ∧ (own y = none ∨ own y = own x) := fun lo hi h1 h2 => by
          obtain ⟨y, a, b, c⟩ := Rd.piece h (lo := lo) (hi := hi) h1 h2
          refine ⟨y, a, ?_, c⟩
          rw [Nat.mul_one, Nat.mul_one, U_drop, U_take] at b
          have : ((bs.drop lo).take (hi - lo)).length = hi - lo := by rw [List.length_take, List.length_drop]; omega
          unfold RB
          rw [this]
          exact b
        obtain ⟨y1, p1, r1, o1⟩ := piece (to + 4) (to + 4 + n) (by omega) (by omega)
        obtain ⟨y2, p2, r2, o2⟩ := piece at_ (to + 4 + n) (by omega) (by omega)
        rw [show to + 4 + n - (to + 4) = n by omega] at r1
        have hn7 : n ≤ 7900 := hsn.resolve_left c2
        have hpl : ((bs.drop (to + 4)).take n).length ≤ 7900 := by rw [List.length_take]; omega
        have ho1 : ∀ c, own y1 = some c → c < s.size := fun c hc => by
          rcases o1 with e | e
          · rw [e] at hc; cases hc
          · rw [e] at hc; exact hox c hc
        have ho2 : ∀ c, own y2 = some c → c < s.size := fun c hc => by
          rcases o2 with e | e
          · rw [e] at hc; cases hc
          · rw [e] at hc; exact hox c hc
        obtain ⟨z, t, e3, f3⟩ := wrap_run d wf r1 ho1 (by omega)
        have r2' : RB t y2 ((bs.drop at_).take (to + 4 + n - at_)) := r2.gr ho2 f3.gr
        have eq : R (d + 3) 70 [Z y2, Z z] t = some (B (decide ((bs.drop at_).take (to + 4 + n - at_) = wrapB ((bs.drop (to + 4)).take n))), t) := by
          by_cases hlong : ((bs.drop at_).take (to + 4 + n - at_)).length ≤ 8000
          · exact equal_run (d + 2) r2' f3.rd hlong
          · exfalso
            rw [List.length_take, List.length_drop] at hlong
            have := getN_few hv
            omega
        have hop : openB bs at_ = if (bs.drop at_).take (to + 4 + n - at_) = wrapB ((bs.drop (to + 4)).take n) then some ((bs.drop (to + 4)).take n, to + 4 + n) else none := by
          unfold openB
          rw [hv]
          simp only
          rw [if_neg (fun hh => hh.elim c1 c2)]
        rw [hop]
        by_cases he : (bs.drop at_).take (to + 4 + n - at_) = wrapB ((bs.drop (to + 4)).take n)
        · rw [if_pos he]
          rw [decide_eq_true he] at eq
          refine ⟨y1, t, ?_, f3.gr, fun p e hh => by
            cases hh
            exact ⟨r1.gr ho1 f3.gr, fun c hc => Nat.lt_of_lt_of_le (ho1 c hc) f3.gr.2.1, by omega, hpl⟩⟩
          show _ = some (T.tup [.s y1, .s (.int .i64 ((to + 4 + n : Nat) : Int)), .s (.bool true)], t)
          generalize ((to + 4 + n : Nat) : Int) = E1 at *
          generalize ((to + 4 : Nat) : Int) = E0 at *
          generalize R (d + 3) = r at *
          simp [e1, aExtract, hll, w1, k1, w2, w3, k2, w4, w5, w6, p1, p2, e3, eq, retT, allV]
        · rw [if_neg he]
          rw [decide_eq_false he] at eq
          refine ⟨y1, t, ?_, f3.gr, fun p e hh => by cases hh⟩
          generalize ((to + 4 + n : Nat) : Int) = E1 at *
          generalize ((to + 4 : Nat) : Int) = E0 at *
          generalize R (d + 3) = r at *
          simp [e1, aExtract, hll, w1, k1, w2, w3, k2, w4, w5, w6, p1, p2, e3, eq, retT, allV]

abbrev resF (y : S) (o : Option Bs) : T := match o with
  | some b => .tup [.s y, .s (.int .i64 0)]
  | none => .tup [.s .nils, .s (.int .i64 1)]

theorem frame_run (d : Nat) (wf : s.wf) (e : Ent) (hw : EWf e) : ∃ y t, R (d + 10) 14 [AE e] s = some (resF y (frameE e), t) ∧ Gr s t ∧ ∀ b, frameE e = some b → FB s t y b := by
  rw [f14_run]
  unfold f14
  obtain ⟨s1, hs1⟩ : ∃ s1, s1 = s.push (.cells true (cE e)) := ⟨_, rfl⟩
  have nw1 : aNew s (nBox (AE e)) = some (Z (.ptr s.size 0), s1) := by rw [hs1]; rfl
  have g1 : Gr s s1 := by rw [hs1]; exact Gr.push wf _
  have h1 : s1.get s.size = some (.cells true (cE e)) := by rw [hs1]; exact St.get_push_same _ _
  have l8 := load8 (g := s1.get) h1
  cases hm : mayE e with
  | false =>
    obtain ⟨s2, e2, g2⟩ := put_bad d g1.wf hm
    have hf : frameE e = none := by simp [frameE, hm]
    rw [hf]
    refine ⟨.nils, s2, ?_, g1.trans g2, fun b hb => by cases hb⟩
    simp [nw1, l8, e2, aExtract, retT, allV]
  | true =>
    obtain ⟨y, s2, e2, f2⟩ := put_run d g1.wf hm hw
    obtain ⟨z, s3, e3, f3⟩ := wrap_run (d + 6) f2.gr.wf f2.rd (fun c hc => (f2.new c hc).2) (by have := putB_len (mayE_x hm); omega)
    have hf : frameE e = some (wrapB (putB e)) := by simp [frameE, hm]
    rw [hf]
    refine ⟨z, s3, ?_, (g1.trans f2.gr).trans f3.gr, fun b hb => by cases hb; exact f3.from (g1.trans f2.gr)⟩
    simp only [Nat.add_assoc, Nat.reduceAdd] at e3
    simp [nw1, l8, e2, aExtract, e3, retT, allV]

theorem frameE_len {e : Ent} {b : Bs} (h : frameE e = some b) : b.length ≤ 415 := by
  unfold frameE at h
  split at h
  · rename_i hm
    cases h
    have := putB_len (mayE_x hm)
    have := wrapB_len (putB e)
    omega
  · cases h

theorem framesB_snoc : ∀ (l : List Ent) (e : Ent), framesB (l ++ [e]) = framesB l ++ wrapB (putB e)
  | [], e => by simp [framesB]
  | a :: r, e => by simp [framesB, framesB_snoc r e]

theorem all_take {l : List Ent} (k : Nat) (h : l.all mayE = true) : (l.take k).all mayE = true := by
  rw [List.all_eq_true] at h ⊢
  exact fun x hx => h x (List.mem_of_mem_take hx)

theorem all_split (l : List Ent) (k : Nat) (e : Ent) (hk : l[k]? = some e) (h : (l.take k).all mayE = true) : (mayE e = false → l.all mayE = false) ∧ (mayE e = true → (l.take (k + 1)).all mayE = true) := by
  constructor
  · intro he
    rw [Bool.eq_false_iff]
    intro ha
    rw [List.all_eq_true] at ha
    rw [ha e (List.mem_of_getElem? hk)] at he
    cases he
  · intro he
    rw [List.take_add_one, hk, Option.toList_some, List.all_append, h]
    simp [he]

theorem framesB_len : ∀ l : List Ent, l.all mayE = true → (framesB l).length ≤ 415 * l.length
  | [], _ => by simp [framesB]
  | e :: r, h => by
    simp only [List.all_cons, Bool.and_eq_true] at h
    have h1 := framesB_len r h.2
    have h2 : (wrapB (putB e)).length ≤ 415 := frameE_len (e := e) (by simp [frameE, h.1])
    simp [framesB]
    omega

abbrev resA (y : S) (p : Bs × Int) : T := .tup [.s y, .s (.int .i64 p.2)]

theorem all_run (d : Nat) (wf : s.wf) (h : RE s x l) (hox : ∀ c, own x = some c → c < s.size) (hw : ∀ e ∈ l, EWf e) (hl : l.length ≤ 2400) : ∃ y t, R (d + 11) 15 [Z x] s = some (resA y (allP l), t) ∧ FB s t y (allP l).1 := by
  rw [f15_run]
  unfold f15
  have hll := h.lens
  -- one element, copied and framed
  have step : ∀ (u : St) (k : Nat), Gr s u → ∀ (hk : k < l.length), ∃ p u1, (aIndexSl 8 (Z x) (I .i64 (k : Nat)) = some p ∧ aLoadN 8 p u.get = some (AE l[k])) ∧
      (∃ u0, aNew u (nCells [.int .i64 0, .int .i64 0, .int .i64 0, .int .i64 0, .int .i64 0, .int .i64 0, .int .u32 0, .str []]) = some (Z (.ptr u.size 0), u0) ∧ aStore 8 (Z (.ptr u.size 0)) (AE l[k]) u0 = some (tt, u1)) ∧ aLoadN 8 (Z (.ptr u.size 0)) u1.get = some (AE l[k]) ∧ Gr u u1 := fun u k g hk => by
    have hr : RE u x l := h.gr hox g
    obtain ⟨p, ix, ld⟩ := RE.atE hr (n := ((k : Nat) : Int)) rfl (List.getElem?_eq_getElem hk)
    obtain ⟨u0, hu0⟩ : ∃ u0, u0 = u.push (.cells true (cE ent0)) := ⟨_, rfl⟩
    have b0 : u0.get u.size = some (.cells true (cE ent0)) := by rw [hu0]; exact St.get_push_same _ _
    have st := store8 (e := l[k]) b0 rfl
    have g0 : Gr u u0 := by rw [hu0]; exact Gr.push g.wf _
    refine ⟨p, _, ⟨ix, ld⟩, ⟨u0, by rw [hu0]; rfl, st⟩, load8 (St.get_set_same _ _ _), ⟨St.wf_set g0.wf (by rw [hu0]; simp) _, by simpa using g0.2.1, fun b hb => by rw [St.get_set_ne _ _ (by omega)]; exact g0.2.2 b hb⟩⟩
  by_cases hbig : 2000 < l.length
  · have c0 : (2000 : Int) < (l.length : Int) := by omega
    obtain ⟨j, τ, lp, hj, gτ⟩ := loops_inv (f := f15_l1 (R (d + 10)) 8192) (fun q v u => ∃ k : Nat, q + k = l.length ∧ v = [Z x, I .i64 l.length, I .i64 k] ∧ Gr s u ∧ (l.take k).all mayE = true)
      (fun j u => (j = .exit 0 [] ∧ l.all mayE = true ∨ j = .ret (.tup [.s .nils, .s (.int .i64 1)]) ∧ l.all mayE = false) ∧ Gr s u) (by
      rintro q v u ⟨k, hk, rfl, g, ha⟩
      by_cases hkl : k < l.length
      · obtain ⟨p, u1, ⟨ix, ld⟩, ⟨u0, nw, st⟩, ld2, g1⟩ := step u k g hkl
        have hm := all_split l k l[k] (List.getElem?_eq_getElem hkl) ha
        obtain ⟨y, u2, e2, g2, f2⟩ := frame_run d (g.trans g1).wf l[k] (hw _ (List.getElem_mem hkl))
        have c1 : (k : Int) < (l.length : Int) := by omega
        have w1 : IntKind.i64.wrap ((k : Int) + 1) = ((k + 1 : Nat) : Int) := by rw [wrap_in _ (by omega) (by omega)]; omega
        cases hme : mayE l[k] with
        | true =>
          left
          have hf : frameE l[k] = some (wrapB (putB l[k])) := by simp [frameE, hme]
          rw [hf] at e2
          refine ⟨[Z x, I .i64 l.length, I .i64 ((k + 1 : Nat) : Int)], u2, q - 1, ?_, by omega, k + 1, by omega, rfl, (g.trans g1).trans g2, hm.2 hme⟩
          unfold f15_l1
          generalize ((k + 1 : Nat) : Int) = K1 at w1 ⊢
          generalize (k : Int) = K at *
          generalize (l.length : Int) = L at *
          generalize R (d + 10) = r at *
          simp [c1, ix, ld, nw, st, ld2, e2, aExtract, w1]
        | false =>
          right
          have hf : frameE l[k] = none := by simp [frameE, hme]
          rw [hf] at e2
          refine ⟨.ret (.tup [.s .nils, .s (.int .i64 1)]), u2, ?_, (fun v hv => by cases hv), .inr ⟨rfl, hm.1 hme⟩, (g.trans g1).trans g2⟩
          unfold f15_l1
          generalize (k : Int) = K at *
          generalize (l.length : Int) = L at *
          generalize R (d + 10) = r at *
          simp [c1, ix, ld, nw, st, ld2, e2, aExtract, retT, allV]
      · right
        have hk' : k = l.length := by omega
        subst hk'
        rw [List.take_length] at ha
        refine ⟨.exit 0 [], u, ?_, (fun v hv => by cases hv), .inl ⟨rfl, ha⟩, g⟩
        unfold f15_l1
        simp) 8192 l.length [Z x, I .i64 l.length, I .i64 0] s ⟨0, rfl, rfl, Gr.refl wf, by simp⟩ (by omega)
    have fn : FB s τ .nils [] := ⟨gτ, by simpa [U] using Ow.nil 1 τ, fun c hc => by cases hc⟩
    rcases hj with ⟨rfl, ha⟩ | ⟨rfl, ha⟩
    · have hp : allP l = ([], 8) := by unfold allP; rw [if_pos ha, if_neg (by omega)]
      rw [hp]
      refine ⟨.nils, τ, ?_, fn⟩
      generalize (l.length : Int) = L at *
      simp [hll, c0, lp, retT, allV]
    · have hp : allP l = ([], 1) := by unfold allP; rw [if_neg (by simp [ha])]
      rw [hp]
      refine ⟨.nils, τ, ?_, fn⟩
      generalize (l.length : Int) = L at *
      simp [hll, c0, lp]
  · have c0 : ¬ (2000 : Int) < (l.length : Int) := by omega
    obtain ⟨j, τ, lp, hj⟩ := loops_inv (f := f15_l2 (R (d + 10)) 8192) (fun q v u => ∃ (k : Nat) (z : S), q + k = l.length ∧ v = [Z z, Z x, I .i64 l.length, I .i64 k] ∧ FB s u z (framesB (l.take k)) ∧ (l.take k).all mayE = true)
      (fun j u => (∃ z, j = .exit 2 [Z z] ∧ FB s u z (framesB l) ∧ l.all mayE = true) ∨ j = .ret (.tup [.s .nils, .s (.int .i64 1)]) ∧ l.all mayE = false ∧ Gr s u) (by
      rintro q v u ⟨k, z, hk, rfl, f, ha⟩
      by_cases hkl : k < l.length
      · obtain ⟨p, u1, ⟨ix, ld⟩, ⟨u0, nw, st⟩, ld2, g1⟩ := step u k f.gr hkl
        have hm := all_split l k l[k] (List.getElem?_eq_getElem hkl) ha
        obtain ⟨y, u2, e2, g2, f2⟩ := frame_run d (f.gr.trans g1).wf l[k] (hw _ (List.getElem_mem hkl))
        have c1 : (k : Int) < (l.length : Int) := by omega
        have w1 : IntKind.i64.wrap ((k : Int) + 1) = ((k + 1 : Nat) : Int) := by rw [wrap_in _ (by omega) (by omega)]; omega
        cases hme : mayE l[k] with
        | true =>
          left
          have hf : frameE l[k] = some (wrapB (putB l[k])) := by simp [frameE, hme]
          rw [hf] at e2
          have hfl := frameE_len hf
          have hal := framesB_len _ ha
          rw [List.length_take] at hal
          obtain ⟨z2, u3, ap, f3, _⟩ := FB.app ((f.gr' g1).gr' g2) (f2 _ hf).rd (by omega)
          have htk : l.take (k + 1) = l.take k ++ [l[k]] := by rw [List.take_add_one, List.getElem?_eq_getElem hkl]; rfl
          refine ⟨[Z z2, Z x, I .i64 l.length, I .i64 ((k + 1 : Nat) : Int)], u3, q - 1, ?_, by omega, k + 1, z2, by omega, rfl, by rw [htk, framesB_snoc]; exact f3, hm.2 hme⟩
          unfold f15_l2
          generalize ((k + 1 : Nat) : Int) = K1 at w1 ⊢
          generalize (k : Int) = K at *
          generalize (l.length : Int) = L at *
          generalize R (d + 10) = r at *
          simp [c1, ix, ld, nw, st, ld2, e2, aExtract, ap, w1]
        | false =>
          right
          have hf : frameE l[k] = none := by simp [frameE, hme]
          rw [hf] at e2
          refine ⟨.ret (.tup [.s .nils, .s (.int .i64 1)]), u2, ?_, (fun v hv => by cases hv), .inr ⟨rfl, hm.1 hme, (f.gr.trans g1).trans g2⟩⟩
          unfold f15_l2
          generalize (k : Int) = K at *
          generalize (l.length : Int) = L at *
          generalize R (d + 10) = r at *
          simp [c1, ix, ld, nw, st, ld2, e2, aExtract, retT, allV]
      · right
        have hk' : k = l.length := by omega
        subst hk'
        rw [List.take_length] at ha f
        refine ⟨.exit 2 [Z z], u, ?_, (fun v hv => by cases hv), .inl ⟨z, rfl, f, ha⟩⟩
        unfold f15_l2
        simp) 8192 l.length [Z .nils, Z x, I .i64 l.length, I .i64 0] s ⟨0, .nils, by omega, rfl, by simpa [framesB, FB, U] using Fr.nil 1 wf, by simp⟩ (by omega)
    rcases hj with ⟨z, rfl, f, ha⟩ | ⟨rfl, ha, g⟩
    · have hp : allP l = (framesB l, 0) := by unfold allP; rw [if_pos ha, if_pos (by omega)]
      rw [hp]
      refine ⟨z, τ, ?_, f⟩
      generalize (l.length : Int) = L at *
      simp [hll, c0, lp, retT, allV]
    · have hp : allP l = ([], 1) := by unfold allP; rw [if_neg (by simp [ha])]
      rw [hp]
      refine ⟨.nils, τ, ?_, ⟨g, by simpa [U] using Ow.nil 1 τ, fun c hc => by cases hc⟩⟩
      generalize (l.length : Int) = L at *
      simp [hll, c0, lp]

/-! ### Meet, Front -/

theorem meetP_le : ∀ a b : List Ent, meetP a b ≤ a.length ∧ meetP a b ≤ b.length
  | [], b => by simp [meetP]
  | a :: r, [] => by simp [meetP]
  | a :: r, b :: t => by
    have := meetP_le r t
    unfold meetP
    split <;> simp <;> omega

theorem meetP_drop (a b : List Ent) (k : Nat) (ha : k ≤ a.length) (hb : k ≤ b.length) (h : ∀ j, j < k → a[j]? = b[j]?) : meetP a b = k + meetP (a.drop k) (b.drop k) := by
  induction k generalizing a b with
  | zero => simp
  | succ k ih =>
    cases a with
    | nil => simp at ha
    | cons x a => cases b with
      | nil => simp at hb
      | cons y b =>
        have h0 := h 0 (by omega)
        simp at h0
        subst h0
        have := ih a b (by simpa using ha) (by simpa using hb) fun j hj => by simpa using h (j + 1) (by omega)
        show (if x = x then _ else _) = _
        rw [if_pos rfl, this, List.drop_succ_cons, List.drop_succ_cons]
        omega

theorem meet_run (d : Nat) (wf : s.wf) (h : RE s x l) (hox : ∀ c, own x = some c → c < s.size) (k : RE s y m) (hoy : ∀ c, own y = some c → c < s.size) (hl : l.length ≤ 8000) : ∃ t, R (d + 2) 25 [Z x, Z y] s = some (I .i64 (meetP l m : Nat), t) ∧ Gr s t := by
  rw [f25_run]
  unfold f25
  have hll := h.lens
  have kll := k.lens
  obtain ⟨j, τ, lp, hj, gτ⟩ := loops_inv (f := f25_l1 (R (d + 1)) 8192) (fun q v u => ∃ n : Nat, q + n = l.length ∧ n ≤ m.length ∧ v = [Z x, Z y, I .i64 n] ∧ Gr s u ∧ ∀ j, j < n → l[j]? = m[j]?)
    (fun j u => j = .exit 0 [I .i64 (meetP l m : Nat)] ∧ Gr s u) (by
    rintro q v u ⟨n, hn, hnm, rfl, g, heq⟩
    have hd := meetP_drop l m n (by omega) hnm heq
    have hmin : min ((l.length : Nat) : Int) ((m.length : Nat) : Int) = ((min l.length m.length : Nat) : Int) := by omega
    by_cases hc : n < l.length ∧ n < m.length
    · have hla : l[n]? = some l[n] := List.getElem?_eq_getElem hc.1
      have hma : m[n]? = some (m[n]'hc.2) := List.getElem?_eq_getElem hc.2
      obtain ⟨p, ix, ld⟩ := RE.atE (h.gr hox g) (n := (n : Int)) rfl hla
      obtain ⟨p', ix', ld'⟩ := RE.atE (k.gr hoy g) (n := (n : Int)) rfl hma
      obtain ⟨u1, e1, g1⟩ := same_run d g.wf l[n] (m[n]'hc.2)
      have c0 : (n : Int) < ((min l.length m.length : Nat) : Int) := by omega
      have hdl : l.drop n = l[n] :: l.drop (n + 1) := List.drop_eq_getElem_cons hc.1
      have hdm : m.drop n = (m[n]'hc.2) :: m.drop (n + 1) := List.drop_eq_getElem_cons hc.2
      by_cases he : l[n] = m[n]'hc.2
      · left
        have w1 : IntKind.i64.wrap ((n : Int) + 1) = ((n + 1 : Nat) : Int) := by rw [wrap_in _ (by omega) (by omega)]; omega
        rw [decide_eq_true he] at e1
        refine ⟨[Z x, Z y, I .i64 ((n + 1 : Nat) : Int)], u1, q - 1, ?_, by omega, n + 1, by omega, by omega, rfl, g.trans g1, fun j hj => ?_⟩
        · unfold f25_l1
          generalize ((n + 1 : Nat) : Int) = N1 at w1 ⊢
          generalize ((min l.length m.length : Nat) : Int) = MM at *
          generalize (n : Int) = NN at *
          generalize R (d + 1) = r at *
          simp [hll, kll, hmin, c0, ix, ix', ld, ld', e1, w1]
        · by_cases hjn : j = n
          · subst hjn; rw [hla, hma, he]
          · exact heq j (by omega)
      · right
        rw [decide_eq_false he] at e1
        have hm0 : meetP l m = n := by
          rw [hd, hdl, hdm]
          show n + (if l[n] = m[n]'hc.2 then _ else 0) = n
          rw [if_neg he]; rfl
        refine ⟨.exit 0 [I .i64 (meetP l m : Nat)], u1, ?_, (fun v hv => by cases hv), rfl, g.trans g1⟩
        unfold f25_l1
        rw [hm0]
        generalize ((min l.length m.length : Nat) : Int) = MM at *
        generalize (n : Int) = NN at *
        generalize R (d + 1) = r at *
        simp [hll, kll, hmin, c0, ix, ix', ld, ld', e1]
    · right
      have c0 : ¬ (n : Int) < ((min l.length m.length : Nat) : Int) := by omega
      have hm0 : meetP l m = n := by
        rw [hd]
        by_cases h1 : n = l.length
        · rw [h1, List.drop_length]; simp [meetP]
        · have : n = m.length := by omega
          rw [this, List.drop_length]
          cases l.drop m.length <;> simp [meetP]
      refine ⟨.exit 0 [I .i64 (meetP l m : Nat)], u, ?_, (fun v hv => by cases hv), rfl, g⟩
      unfold f25_l1
      rw [hm0]
      generalize ((min l.length m.length : Nat) : Int) = MM at *
      generalize (n : Int) = NN at *
      simp [hll, kll, hmin, c0, gtt]) 8192 l.length [Z x, Z y, I .i64 0] s ⟨0, rfl, by omega, rfl, Gr.refl wf, fun j hj => by omega⟩ (by omega)
  subst hj
  exact ⟨τ, by simp [lp], gτ⟩

theorem front_run (d : Nat) (wf : s.wf) (h : RE s x l) (hox : ∀ c, own x = some c → c < s.size) (k : RE s y m) (hoy : ∀ c, own y = some c → c < s.size) (hl : l.length ≤ 8000) : ∃ t, R (d + 3) 23 [Z x, Z y] s = some (B (decide (meetP l m = l.length)), t) ∧ Gr s t := by
  rw [f23_run]
  unfold f23
  obtain ⟨t, e1, g1⟩ := meet_run d wf h hox k hoy hl
  have hll := h.lens
  have hd : decide (((meetP l m : Nat) : Int) = ((l.length : Nat) : Int)) = decide (meetP l m = l.length) := decide_eq_decide.2 (by omega)
  refine ⟨t, ?_, g1⟩
  generalize ((meetP l m : Nat) : Int) = M at *
  generalize ((l.length : Nat) : Int) = L at *
  simp only [e1, bd2_some, hll, bd_some, eql_int, hd]
end
end Go.Proofs.YtlhbidbdmdcdeaaGreatDoor

/-
  Frames: what log.Read computes, in any store. No conditions but those named in each line.
-/
namespace Go.Proofs.YtlhbidbdmdcdeaaGreatDoor
open Go Go.Abs Go.Abs.F
set_option linter.unusedVariables false
section
variable {s t : St} {x y : S} {bs cs : Bs} {i : Nat} {l m : List Ent}

theorem openB_le {a e : Nat} {p : Bs} (h : openB bs a = some (p, e)) : e ≤ bs.length := by
  unfold openB at h
  split at h
  · cases h
  · split at h
    · cases h
    · split at h
      · cases h; omega
      · cases h

abbrev resR (y : S) (p : List Ent × Nat) : T := .tup [.s y, .s (.int .i64 (p.2 : Nat))]

theorem read_run (d : Nat) (wf : s.wf) (h : RB s x bs) (hox : ∀ c, own x = some c → c < s.size) (hl : bs.length ≤ 100000) (V : Nat → Prop) (v0 : V 0) (v1 : ∀ a p e, V a → openB bs a = some (p, e) → V e)
    (v2 : ∀ a n to, V a → vget bs a = some (n, to) → bs.length - to - 4 < n ∨ n ≤ 7900) :
    ∃ y t, R (d + 11) 16 [Z x] s = some (resR y (readP bs), t) ∧ FE s t y (readP bs).1 := by
  rw [f16_run]
  unfold f16
  obtain ⟨j, τ, lp, z, hj, f⟩ := loops_inv (f := f16_l1 (R (d + 10)) 8192) (fun q v u => ∃ (at_ : Nat) (z : S) (acc : List Ent), q + acc.length = 2000 ∧ v = [Z x, Z z, I .i64 (at_ : Nat)] ∧ FE s u z acc ∧ V at_ ∧ at_ ≤ bs.length ∧ readL bs q at_ acc = readP bs)
    (fun j u => ∃ z, j = .exit 0 [Z z, I .i64 ((readP bs).2 : Nat)] ∧ FE s u z (readP bs).1) (by
    rintro q v u ⟨at_, z, acc, hq, rfl, f, hv, ha, hr⟩
    have hll := f.rd.lens
    by_cases hc : acc.length < 2000
    · obtain ⟨q', rfl⟩ : ∃ q', q = q' + 1 := ⟨q - 1, by omega⟩
      obtain ⟨y, u1, e1, g1, o1⟩ := open_run (d + 6) f.gr.wf (h.gr hox f.gr) (fun c hc => Nat.lt_of_lt_of_le (hox c hc) f.gr.2.1) hl ha (fun n to => v2 at_ n to hv)
      simp only [Nat.add_assoc, Nat.reduceAdd] at e1
      have c0 : ((acc.length : Nat) : Int) < 2000 := by omega
      unfold readL at hr
      cases ho : openB bs at_ with
      | none =>
        rw [ho] at e1 hr
        right
        refine ⟨.exit 0 [Z z, I .i64 (at_ : Nat)], u1, ?_, (fun v hv => by cases hv), z, ?_, ?_⟩
        · unfold f16_l1
          generalize ((acc.length : Nat) : Int) = L at *
          generalize ((at_ : Nat) : Int) = A at *
          generalize R (d + 10) = r at *
          simp [hll, c0, e1, aExtract, gtt]
        · rw [← hr]
        · rw [← hr]; exact f.gr' g1
      | some pe =>
        obtain ⟨p, e⟩ := pe
        rw [ho] at e1 hr
        simp only at hr
        obtain ⟨ry, oy, he, hp⟩ := o1 p e ho
        obtain ⟨u2, e2, g2⟩ := get_run d g1.wf ry oy (by omega)
        obtain ⟨u3, hu3⟩ : ∃ u3, u3 = u2.push (.cells true (cE ent0)) := ⟨_, rfl⟩
        have b0 : u3.get u2.size = some (.cells true (cE ent0)) := by rw [hu3]; exact St.get_push_same _ _
        have g3 : Gr u2 u3 := by rw [hu3]; exact Gr.push g2.wf _
        have z3 : u3.size = u2.size + 1 := by rw [hu3]; simp
        have nw : aNew u2 (nCells [.int .i64 0, .int .i64 0, .int .i64 0, .int .i64 0, .int .i64 0, .int .i64 0, .int .u32 0, .str []]) = some (Z (.ptr u2.size 0), u3) := by rw [hu3]; rfl
        have gset : ∀ b : Blk, Gr u2 (u3.set u2.size b) := fun b =>
          ⟨St.wf_set g3.wf (by omega) _, by simpa using g3.2.1, fun c hc => by rw [St.get_set_ne _ _ (by omega)]; exact g3.2.2 c hc⟩
        cases hg : getE p with
        | none =>
          rw [hg] at e2 hr
          have st := store8 (e := ent0) b0 rfl
          right
          refine ⟨.exit 0 [Z z, I .i64 (at_ : Nat)], u3.set u2.size (.cells true (cE ent0)), ?_, (fun v hv => by cases hv), z, ?_, ?_⟩
          rotate_left
          · rw [← hr]
          · rw [← hr]; exact f.gr' ((g1.trans g2).trans (gset _))
          · unfold f16_l1
            generalize ((acc.length : Nat) : Int) = L at *
            generalize ((at_ : Nat) : Int) = A at *
            generalize ((e : Nat) : Int) = E at *
            generalize R (d + 10) = r at *
            simp [hll, c0, e1, aExtract, e2, nw, st, gtt]
        | some en =>
          rw [hg] at e2 hr
          obtain ⟨w, hw⟩ : ∃ w, w = u3.set u2.size (.cells true (cE en)) := ⟨_, rfl⟩
          have st : aStore 8 (Z (.ptr u2.size 0)) (AE en) u3 = some (tt, w) := by rw [hw]; exact store8 b0 rfl
          have ld : aLoadN 8 (Z (.ptr u2.size 0)) w.get = some (AE en) := by rw [hw]; exact load8 (St.get_set_same _ _ _)
          have gw : Gr u2 w := by rw [hw]; exact gset _
          obtain ⟨z2, u5, u4, nw2, ap, f5, _⟩ := FE.lit (e := en) (f.gr' ((g1.trans g2).trans gw)) (by omega)
          left
          refine ⟨[Z x, Z z2, I .i64 (e : Nat)], u5, q', ?_, rfl, e, z2, acc ++ [en], by simp; omega, rfl, f5, v1 _ _ _ hv ho, he, hr⟩
          unfold f16_l1
          generalize ((acc.length : Nat) : Int) = L at *
          generalize ((at_ : Nat) : Int) = A at *
          generalize R (d + 10) = r at *
          simp [hll, c0, e1, aExtract, e2, nw, st, ld, nw2, ap]
    · have hq0 : q = 0 := by omega
      subst hq0
      have c0 : ¬ ((acc.length : Nat) : Int) < 2000 := by omega
      right
      refine ⟨.exit 0 [Z z, I .i64 (at_ : Nat)], u, ?_, (fun v hv => by cases hv), z, ?_, ?_⟩
      · unfold f16_l1
        generalize ((acc.length : Nat) : Int) = L at *
        simp [hll, c0]
      · rw [← hr]; rfl
      · rw [← hr]; exact f) 8192 2000 [Z x, Z .nils, I .i64 0] s ⟨0, .nils, [], rfl, rfl, by exact Fr.nil 8 wf, v0, by omega, rfl⟩ (by omega)
  subst hj
  exact ⟨z, τ, by simp [lp, retT, allV], f⟩

/-- Few bytes: no condition. -/
theorem read_run' (d : Nat) (wf : s.wf) (h : RB s x bs) (hox : ∀ c, own x = some c → c < s.size) (hl : bs.length ≤ 7900) : ∃ y t, R (d + 11) 16 [Z x] s = some (resR y (readP bs), t) ∧ FE s t y (readP bs).1 :=
  read_run d wf h hox (by omega) (fun _ => True) trivial (fun _ _ _ _ _ => trivial) (fun a n to _ hv => by
    by_cases c : bs.length - to - 4 < n
    · exact .inl c
    · exact .inr (by omega))
end
end Go.Proofs.YtlhbidbdmdcdeaaGreatDoor

/-
  The plain law of frames: what is put is read, what is broken is not. No conditions but those named in each line.
-/
namespace Go.Proofs.YtlhbidbdmdcdeaaGreatDoor
open Go Go.Abs Go.Abs.F
set_option linter.unusedVariables false

theorem or_add (acc c k : Nat) (h : acc < 2 ^ k) : acc ||| c * 2 ^ k = acc + c * 2 ^ k := by
  have := Nat.two_pow_add_eq_or_of_lt h c
  rw [Nat.mul_comm] at this
  rw [Nat.or_comm, ← this, Nat.add_comm]

theorem pow7 (k : Nat) : 2 ^ (7 * (k + 1)) = 128 * 2 ^ (7 * k) := by
  rw [Nat.mul_add, Nat.pow_add]; omega

theorem getN_putN {bs post : Bs} {at_ : Nat} : ∀ (f k m acc : Nat), f + k = 10 → m * 2 ^ (7 * k) < 2 ^ 64 → (k = 0 ∨ 0 < m) → acc < 2 ^ (7 * k) → bs.drop (at_ + k) = putN f m ++ post →
    getN bs at_ f k acc = some (acc + m * 2 ^ (7 * k), at_ + k + (putN f m).length) := by
  intro f
  induction f with
  | zero =>
    intro k m acc hf hm h0 ha hd
    obtain rfl : k = 10 := by omega
    exfalso
    rcases h0 with h | h
    · omega
    · have : 1 * 2 ^ 70 ≤ m * 2 ^ 70 := Nat.mul_le_mul_right _ h
      have e : 2 ^ (7 * 10) = 2 ^ 70 := rfl
      rw [e] at hm
      omega
  | succ f ih =>
    intro k m acc hf hm h0 ha hd
    have hk9 : k = 9 → m < 2 := by
      rintro rfl
      have e : 2 ^ (7 * 9) = 2 ^ 63 := rfl
      rw [e] at hm
      omega
    have hget : bs[at_ + k]? = (bs.drop (at_ + k))[0]? := by simp
    unfold getN
    by_cases hc : 128 ≤ m
    · have hp : putN (f + 1) m = UInt8.ofNat (m % 128 + 128) :: putN f (m / 128) := by rw [putN, if_pos hc]
      rw [hp] at hd ⊢
      rw [hget, hd]
      have hb : (UInt8.ofNat (m % 128 + 128)).toNat = m % 128 + 128 := by rw [byte_nat]; omega
      simp only [List.cons_append, List.getElem?_cons_zero, hb]
      rw [if_neg (by rintro ⟨h, _⟩; have := hk9 h; omega), if_pos (by omega)]
      have h128 : (m % 128 + 128) % 128 = m % 128 := by omega
      rw [h128, or_add _ _ _ ha]
      have hmul : m * 2 ^ (7 * k) = m % 128 * 2 ^ (7 * k) + m / 128 * 2 ^ (7 * (k + 1)) := by
        rw [pow7, ← Nat.mul_assoc, ← Nat.add_mul]
        congr 1
        omega
      rw [ih (k + 1) (m / 128) _ (by omega) (by omega) (.inr (by omega)) ?_ ?_]
      · rw [List.length_cons, hmul]
        congr 2 <;> omega
      · rw [pow7]
        have : m % 128 * 2 ^ (7 * k) ≤ 127 * 2 ^ (7 * k) := Nat.mul_le_mul_right _ (by omega)
        omega
      · rw [← Nat.add_assoc, ← List.drop_drop, hd]; rfl
    · have hp : putN (f + 1) m = [UInt8.ofNat m] := by rw [putN, if_neg hc]
      rw [hp] at hd ⊢
      rw [hget, hd]
      have hb : (UInt8.ofNat m).toNat = m := by rw [byte_nat]; omega
      simp only [List.cons_append, List.getElem?_cons_zero, hb]
      rw [if_neg (by rintro ⟨h, _⟩; have := hk9 h; omega), if_neg hc, if_neg (by omega), Nat.mod_eq_of_lt (by omega), or_add _ _ _ ha]
      rfl

theorem vget_vput {bs pre post : Bs} {n at_ : Nat} (hb : bs = pre ++ (vput n ++ post)) (ha : at_ = pre.length) (hn : n < 2 ^ 64) : vget bs at_ = some (n, at_ + (vput n).length) := by
  subst hb ha
  unfold vget
  rw [if_pos (by simp), getN_putN (post := post) 10 0 n 0 rfl (by simpa using hn) (.inl rfl) (by simp) (by simp [vput])]
  simp [vput]

theorem nxt_put {bs pre post : Bs} {n at_ most : Nat} {bad : Bool} (hb : bs = pre ++ (vput n ++ post)) (ha : at_ = pre.length) (hn : n ≤ most) (hm : most < 2 ^ 64) : nxt bs most at_ bad = (n, at_ + (vput n).length, bad) := by
  unfold nxt
  rw [vget_vput hb ha (by omega)]
  simp only [Nat.min_eq_left hn, Prod.mk.injEq, true_and]
  rw [decide_eq_false (by omega), Bool.or_false]

/-- What is put is got. -/
theorem getE_putB {e : Ent} (h : mayE e = true) (hw : EWf e) : getE (putB e) = some e := by
  obtain ⟨v0, v1, k0, k1, h1, h2, h3, h4⟩ := mayE_range h
  have hput : putE e = some (putB e) := by unfold putE; rw [if_pos h]
  obtain ⟨w0, w1⟩ := hw
  have main : ∃ c r, putB e = c :: r ∧ getFields (putB e) c = some (e, false) := by
    refine ⟨_, _, rfl, ?_⟩
    have hkb : (UInt8.ofNat e.k.toNat).toNat = e.k.toNat := by rw [byte_nat]; omega
    have hc1 : putB e = [UInt8.ofNat e.k.toNat] ++ (vput e.v.toNat ++ (putNs (nums e) ++ e.x)) := by simp [putB]
    have n1 := nxt_put (most := 1073741824) (bad := false) hc1 rfl (by omega) (by omega)
    have hv : ((e.v.toNat : Nat) : Int) = e.v := Int.toNat_of_nonneg v0
    rcases (by omega : e.k = 1 ∨ e.k = 2 ∨ e.k = 3 ∨ e.k = 4) with hk | hk | hk | hk
    · obtain ⟨hx, i0, i1, t0, t1, f0, f1, o1⟩ := h1 hk
      have hk' : (UInt8.ofNat e.k.toNat).toNat = 1 := by rw [hkb, hk]; rfl
      have hn : nums e = [e.i.toNat, e.t.toNat, e.f.toNat, e.o.toNat, e.u.toNat] := by simp [nums, hk]
      have c2 : putB e = ([UInt8.ofNat e.k.toNat] ++ vput e.v.toNat) ++ (vput e.i.toNat ++ (vput e.t.toNat ++ vput e.f.toNat ++ vput e.o.toNat ++ vput e.u.toNat)) := by simp [putB, hn, putNs, hx]
      have c3 : putB e = ([UInt8.ofNat e.k.toNat] ++ vput e.v.toNat ++ vput e.i.toNat) ++ (vput e.t.toNat ++ (vput e.f.toNat ++ vput e.o.toNat ++ vput e.u.toNat)) := by simp [putB, hn, putNs, hx]
      have c4 : putB e = ([UInt8.ofNat e.k.toNat] ++ vput e.v.toNat ++ vput e.i.toNat ++ vput e.t.toNat) ++ (vput e.f.toNat ++ (vput e.o.toNat ++ vput e.u.toNat)) := by simp [putB, hn, putNs, hx]
      have c5 : putB e = ([UInt8.ofNat e.k.toNat] ++ vput e.v.toNat ++ vput e.i.toNat ++ vput e.t.toNat ++ vput e.f.toNat) ++ (vput e.o.toNat ++ vput e.u.toNat) := by simp [putB, hn, putNs, hx]
      have c6 : putB e = ([UInt8.ofNat e.k.toNat] ++ vput e.v.toNat ++ vput e.i.toNat ++ vput e.t.toNat ++ vput e.f.toNat ++ vput e.o.toNat) ++ (vput e.u.toNat ++ []) := by simp [putB, hn, putNs, hx]
      have n2 := nxt_put (most := 1073741824) (bad := false) c2 rfl (by omega) (by omega)
      have n3 := nxt_put (most := 4) (bad := false) c3 rfl (by omega) (by omega)
      have n4 := nxt_put (most := 1099511627776) (bad := false) c4 rfl (by omega) (by omega)
      have n5 := nxt_put (most := 1099511627776) (bad := false) c5 rfl (by omega) (by omega)
      have n6 := nxt_put (most := 4294967295) (bad := false) c6 rfl (by omega) (by omega)
      simp only [List.length_append, List.length_cons, List.length_nil, Nat.zero_add] at n1 n2 n3 n4 n5 n6
      unfold getFields
      simp only [hk', n1, n2, n3, n4, n5, n6, if_true]
      simp only [hv, Int.toNat_of_nonneg (show 0 ≤ e.i by omega), Int.toNat_of_nonneg t0, Int.toNat_of_nonneg f0, Int.toNat_of_nonneg (show 0 ≤ e.o by omega), Int.toNat_of_nonneg w0]
      obtain ⟨a1, a2, a3, a4, a5, a6, a7, a8⟩ := e
      simp only at hk hx
      subst hk hx
      rfl
    · have hk' : (UInt8.ofNat e.k.toNat).toNat = 2 := by rw [hkb, hk]; rfl
      obtain ⟨q0, q1, q2⟩ := h2 hk
      have hn : nums e = [e.i.toNat] := by simp [nums, hk]
      have c2 : putB e = ([UInt8.ofNat e.k.toNat] ++ vput e.v.toNat) ++ (vput e.i.toNat ++ e.x) := by simp [putB, hn, putNs]
      have n2 := nxt_put (most := 1073741824) (bad := false) c2 rfl (by omega) (by omega)
      simp only [List.length_append, List.length_cons, List.length_nil, Nat.zero_add] at n1 n2
      unfold getFields
      simp only [hk', n1, n2, if_true, if_neg (show ¬ (2 : Nat) = 1 by decide)]
      rw [hv, Int.toNat_of_nonneg (show 0 ≤ e.i by omega)]
      obtain ⟨a1, a2, a3, a4, a5, a6, a7, a8⟩ := e
      simp only at hk
      subst hk
      obtain rfl : a4 = 0 := congrArg Ent.t q2
      obtain rfl : a5 = 0 := congrArg Ent.f q2
      obtain rfl : a6 = 0 := congrArg Ent.o q2
      obtain rfl : a7 = 0 := congrArg Ent.u q2
      obtain rfl : a8 = [] := congrArg Ent.x q2
      rfl
    · have hk' : (UInt8.ofNat e.k.toNat).toNat = 3 := by rw [hkb, hk]; rfl
      simp only [List.length_append, List.length_cons, List.length_nil, Nat.zero_add] at n1
      unfold getFields
      simp only [hk', n1, if_neg (show ¬ (3 : Nat) = 1 by decide), if_neg (show ¬ (3 : Nat) = 2 by decide), if_neg (show ¬ (3 : Nat) = 4 by decide)]
      rw [hv]
      have q2 := (h3 hk).2
      obtain ⟨a1, a2, a3, a4, a5, a6, a7, a8⟩ := e
      simp only at hk
      subst hk
      simp only [ent0, Ent.mk.injEq] at q2
      obtain ⟨_, _, q3, q4, q5, q6, q7, q8⟩ := q2
      subst_vars
      rfl
    · have hk' : (UInt8.ofNat e.k.toNat).toNat = 4 := by rw [hkb, hk]; rfl
      obtain ⟨x0, q2, _⟩ := h4 hk
      have hn : nums e = [e.x.length] := by simp [nums, hk]
      have c2 : putB e = ([UInt8.ofNat e.k.toNat] ++ vput e.v.toNat) ++ (vput e.x.length ++ e.x) := by simp [putB, hn, putNs]
      have n2 := nxt_put (most := 300) (bad := false) c2 rfl (by omega) (by omega)
      have hl : (putB e).length = 1 + (vput e.v.toNat).length + (vput e.x.length).length + e.x.length := by rw [c2]; simp; omega
      have hd : (putB e).drop (1 + (vput e.v.toNat).length + (vput e.x.length).length) = e.x := by
        rw [c2, ← List.append_assoc, List.drop_left']
        simp
        omega
      simp only [List.length_append, List.length_cons, List.length_nil, Nat.zero_add] at n1 n2
      unfold getFields
      simp only [hk', n1, n2, if_neg (show ¬ (4 : Nat) = 1 by decide), if_neg (show ¬ (4 : Nat) = 2 by decide), if_true]
      rw [if_neg (by rw [hl]; simp), hd, List.take_length, hv]
      obtain ⟨a1, a2, a3, a4, a5, a6, a7, a8⟩ := e
      simp only at hk
      subst hk
      simp only [ent0, Ent.mk.injEq] at q2
      obtain ⟨_, _, q3, q4, q5, q6, q7, q8⟩ := q2
      subst_vars
      rfl
  obtain ⟨c, r, hb, hf⟩ := main
  unfold getE
  rw [hb]
  simp only
  rw [← hb, hf]
  simp [hput]

theorem getE_back {bs : Bs} {e : Ent} (h : getE bs = some e) : mayE e = true ∧ bs = putB e := by
  unfold getE at h
  split at h
  · cases h
  · split at h
    · cases h
    · rename_i e' bad he
      split at h
      · rename_i hc
        cases h
        have hp := hc.2
        unfold putE at hp
        split at hp
        · rename_i hm
          cases hp
          exact ⟨hm, rfl⟩
        · cases hp
      · cases h

/-! ### A frame -/

theorem openB_wrap {bs pre b post : Bs} {at_ : Nat} (hb : bs = pre ++ (wrapB b ++ post)) (ha : at_ = pre.length) (hn : b.length < 2 ^ 64) : openB bs at_ = some (b, at_ + (wrapB b).length) := by
  have hs : bs = pre ++ (vput b.length ++ (four (sumB 1 (vput b.length ++ b)) ++ b ++ post)) := by rw [hb]; simp [wrapB]
  have h4 : ∀ n, (four n).length = 4 := fun _ => rfl
  have hl : bs.length = at_ + (vput b.length).length + 4 + b.length + post.length := by rw [hs, ha]; simp [h4]; omega
  have hw : (wrapB b).length = (vput b.length).length + 4 + b.length := by simp [wrapB, h4]; omega
  have hd : bs.drop at_ = wrapB b ++ post := by rw [hb, ha, List.drop_left]
  have hd2 : bs.drop (at_ + (vput b.length).length + 4) = b ++ post := by
    rw [hs, ha, show pre ++ (vput b.length ++ (four (sumB 1 (vput b.length ++ b)) ++ b ++ post)) = (pre ++ vput b.length ++ four (sumB 1 (vput b.length ++ b))) ++ (b ++ post) by simp]
    rw [List.drop_left']
    simp [h4]
    omega
  unfold openB
  rw [vget_vput hs ha hn]
  simp only
  rw [if_neg (by omega), hd, hd2, List.take_left, List.take_left' (by rw [hw]; omega), if_pos rfl]
  congr 2
  omega

theorem openB_back {bs p : Bs} {at_ e : Nat} (h : openB bs at_ = some (p, e)) : e = at_ + (wrapB p).length ∧ e ≤ bs.length ∧ ∃ post, bs.drop at_ = wrapB p ++ post := by
  have he := openB_le h
  unfold openB at h
  split at h
  · cases h
  · rename_i n to hv
    have hlt := vget_lt hv
    split at h
    · cases h
    · split at h
      · rename_i hc heq
        cases h
        have h1 := List.take_append_drop (to + 4 + n - at_) (bs.drop at_)
        have hl : ((bs.drop at_).take (to + 4 + n - at_)).length = to + 4 + n - at_ := by rw [List.length_take, List.length_drop]; omega
        rw [heq] at hl h1
        exact ⟨by omega, he, _, h1.symm⟩
      · cases h

/-- No frame begins another. -/
theorem wrapB_free {p q r r' : Bs} (h : wrapB p ++ r = wrapB q ++ r') (hp : p.length < 2 ^ 64) (hq : q.length < 2 ^ 64) : p = q ∧ r = r' := by
  have h1 := openB_wrap (bs := wrapB p ++ r) (pre := []) (b := p) (post := r) (at_ := 0) rfl rfl hp
  have h2 := openB_wrap (bs := wrapB p ++ r) (pre := []) (b := q) (post := r') (at_ := 0) (by rw [h]; rfl) rfl hq
  rw [h1] at h2
  have : p = q := by cases h2; rfl
  subst this
  exact ⟨rfl, List.append_cancel_left h⟩

theorem openB_end {bs : Bs} {at_ : Nat} (h : bs.length ≤ at_) : openB bs at_ = none := by
  unfold openB vget
  split
  · rfl
  · rename_i n to hv
    split at hv
    · unfold getN at hv
      rw [show bs[at_ + 0]? = none from List.getElem?_eq_none (by omega)] at hv
      cases hv
    · cases hv

theorem framesB_append : ∀ l m : List Ent, framesB (l ++ m) = framesB l ++ framesB m
  | [], m => rfl
  | e :: r, m => by simp [framesB, framesB_append r m]

theorem mayE_len {e : Ent} (h : mayE e = true) : (putB e).length ≤ 400 := putB_len (mayE_x h)

/-- Whole frames are read. -/
theorem readL_frames {bs post : Bs} : ∀ (l : List Ent) (f : Nat) (pre : Bs) (acc : List Ent), l.length ≤ f → l.all mayE = true → (∀ e ∈ l, EWf e) → bs = pre ++ (framesB l ++ post) →
    readL bs f pre.length acc = readL bs (f - l.length) (pre.length + (framesB l).length) (acc ++ l)
  | [], f, pre, acc, _, _, _, _ => by simp [framesB]
  | e :: r, f + 1, pre, acc, hf, hm, hw, hb => by
    simp only [List.all_cons, Bool.and_eq_true] at hm
    have hl := mayE_len hm.1
    have ho := openB_wrap (bs := bs) (pre := pre) (at_ := pre.length) (b := putB e) (post := framesB r ++ post) (by rw [hb]; simp [framesB]) rfl (by omega)
    rw [readL, ho]
    simp only [getE_putB hm.1 (hw e (by simp))]
    have ih := readL_frames (bs := bs) (post := post) r f (pre ++ wrapB (putB e)) (acc ++ [e]) (by simpa using hf) hm.2 (fun x hx => hw x (by simp [hx])) (by rw [hb]; simp [framesB])
    rw [List.length_append] at ih
    rw [ih]
    simp [framesB]
    congr 1
    omega

/-- Where no frame stands the reading ends. -/
theorem readL_none {bs : Bs} {f at_ : Nat} {acc : List Ent} (h : openB bs at_ = none) : readL bs f at_ acc = (acc, at_) := by
  cases f with
  | zero => rfl
  | succ f => rw [readL, h]

theorem readP_frames {bs post : Bs} {l : List Ent} (hl : l.length ≤ 2000) (hm : l.all mayE = true) (hw : ∀ e ∈ l, EWf e) (hb : bs = framesB l ++ post) :
    readP bs = readL bs (2000 - l.length) (framesB l).length l := by
  have := readL_frames (bs := bs) (post := post) l 2000 [] [] hl hm hw hb
  simpa [readP] using this
end Go.Proofs.YtlhbidbdmdcdeaaGreatDoor

/-
  The rows of the laws: what Rows computes, in any store. No conditions but those named in each line.
-/
namespace Go.Proofs.YtlhbidbdmdcdeaaGreatDoor
open Go Go.Abs Go.Abs.F
set_option linter.unusedVariables false

structure RowSt where
  out : List Ent
  there : List Nat
  view : Nat
  id : Nat
  at_ : Nat

def sealB (n : Nat) : Bs := [115, 101, 97, 108, 32] ++ (if n = 0 then [49] else if n = 1 then [57] else [51, 51])

def rowStep (σ : RowSt) (k : Nat) : RowSt :=
  if k % 8 = 7 then { σ with out := σ.out ++ [{ ent0 with k := 3, v := (σ.view + 1 : Nat) }], view := σ.view + 1 }
  else if k % 8 = 6 then { σ with out := σ.out ++ [{ ent0 with k := 4, v := (σ.view : Nat), x := sealB (k / 8 % 3) }] }
  else if 3 < k % 8 ∧ 0 < σ.there.length then
    { σ with out := σ.out ++ [{ ent0 with k := 2, v := (σ.view : Nat), i := (σ.there.getD (k / 8 % σ.there.length) 0 : Nat) }],
             there := σ.there.take (k / 8 % σ.there.length) ++ σ.there.drop (k / 8 % σ.there.length + 1) }
  else { out := σ.out ++ [{ k := 1, v := (σ.view : Nat), i := (σ.id + 1 : Nat), t := (k / 8 % 4 : Nat), f := (σ.at_ : Nat), o := (σ.at_ + 1 + k / 8 % 30 : Nat), u := (k % 4294967296 : Nat), x := [] }],
         there := σ.there ++ [σ.id + 1], view := σ.view, id := σ.id + 1, at_ := σ.at_ + 1 + k / 8 % 30 }

def rowsG (ks : List Nat) : RowSt := ks.foldl rowStep ⟨[], [], 0, 0, 0⟩
def rowK (v : Int) : Nat := (IntKind.u64.wrap v).toNat
def rowsE (vs : List Int) : List Ent := (rowsG ((vs.take 40).map rowK)).out

abbrev I64 (vs : List Int) : List S := vs.map (S.int .i64)
abbrev N64 (vs : List Nat) : List S := vs.map fun n : Nat => S.int .i64 (n : Int)

section
variable {s t : St} {x y : S} {bs cs : Bs} {i : Nat} {l m : List Ent} {e n : Nat} {vs : List S}

theorem aBounds_max {len cap k : Nat} (h : k ≤ cap) : aBounds len cap none (some (I .i64 k)) (some (I .i64 k)) = some (0, k, k) := by
  have e1 : ∀ c, k ≤ c → aBnd (I .i64 k) c = some k := fun c h => by
    have h0 : (0 : Int) ≤ (k : Int) := by omega
    have h1 : (k : Int) ≤ (c : Int) := by omega
    simp [aBnd, h]
  delta aBounds
  dsimp only
  rw [e1 _ h]
  dsimp only
  rw [e1 _ (Nat.le_refl _)]

theorem Ow_cut (h : Ow e s x n vs) (h0 : 0 < n) {j : Nat} (hj : j ≤ n) : ∃ y, aPieceSl e (Z x) none (some (I .i64 j)) (some (I .i64 j)) = some (Z y) ∧ Ow e s y j (vs.take (j * e)) ∧ own y = own x := by
  have hl := h.len
  have hm : j * e ≤ n * e := Nat.mul_le_mul_right _ hj
  rcases h.ow with ⟨rfl, h1⟩ | ⟨c, rows, rfl, h1, _⟩ | ⟨c, rows, cap, rfl, hc, h1, h2, h3⟩
  · omega
  · omega
  · have hy : Ow e s (.sl c 0 j (.known j)) j (vs.take (j * e)) := by
      refine ⟨by rw [List.length_take]; omega, .inr (.inr ⟨c, rows, _, rfl, .inr rfl, h1, by omega, ?_⟩)⟩
      rw [← h3, List.take_take, Nat.min_eq_left hm]
    refine ⟨.sl c 0 j (.known j), ?_, hy, rfl⟩
    rcases hc with rfl | rfl
    · simp only [aPieceSl, if_true, aBounds_max hj]
      simp
    · simp only [aPieceSl, aBounds_max hj]
      simp

theorem Fr_other {s0 : St} (h : Fr e s0 s x n vs) (g : Gr s0 t) (hz : s.size ≤ t.size) (hk : ∀ c, own x = some c → t.get c = s.get c) : Fr e s0 t x n vs :=
  ⟨g, h.ow.keep hk, fun c hc => ⟨(h.new c hc).1, Nat.lt_of_lt_of_le (h.new c hc).2 hz⟩⟩

theorem FE.lit' {s0 : St} {e : Ent} (h : FE s0 s x l) (hl : l.length ≤ 1000000) :
    ∃ x' t s', aNew s (nSlice 1 (aFill [.int .i64 0, .int .i64 0, .int .i64 0, .int .i64 0, .int .i64 0, .int .i64 0, .int .u32 0, .str []] [(0, 8, AE e)])) = some (Z (.sl s.size 0 1 (.known 1)), s') ∧ aAppend 8 72 (Z x) (Z (.sl s.size 0 1 (.known 1))) s' = some (Z x', t) ∧ FE s0 t x' (l ++ [e]) ∧ s.size ≤ t.size ∧
      (∀ b, b < s.size → own x ≠ some b → t.get b = s.get b) ∧ (own x' = none ∨ own x' = own x ∨ ∃ c, own x' = some c ∧ s.size ≤ c) := by
  have L := Fr.lit 8 h.gr.1 (n := 1) (vs := cells cE [e]) (by simp [cE])
  obtain ⟨x', t, e1, f, hz, k, o⟩ := (h.gr' L.gr).append' (by_ := 72) (by omega) L.rd.src (by simp [cE]) (by omega)
  refine ⟨x', t, _, rfl, e1, ?_, Nat.le_trans L.gr.2.1 hz, fun b hb ho => ?_, ?_⟩
  · unfold FE
    rw [cells_append, List.length_append]
    exact f
  · rw [k b (Nat.lt_of_lt_of_le hb L.gr.2.1) ho, L.gr.2.2 b hb]
  · rcases o with h | h | ⟨c, h, h'⟩
    · exact .inl h
    · exact .inr (.inl h)
    · exact .inr (.inr ⟨c, h, Nat.le_trans L.gr.2.1 h'⟩)

/-- Two slices that grow side by side. -/
structure Both (s0 s : St) (o y : S) (l : List Ent) (ns : List Nat) : Prop where
  out : FE s0 s o l
  there : Fr 1 s0 s y ns.length (N64 ns)
  ne : ∀ c, own o = some c → own y ≠ some c

theorem Both.lit {s0 : St} {o : S} {ns : List Nat} {e : Ent} (h : Both s0 s o y l ns) (hl : l.length ≤ 1000000) :
    ∃ x' t s', aNew s (nSlice 1 (aFill [.int .i64 0, .int .i64 0, .int .i64 0, .int .i64 0, .int .i64 0, .int .i64 0, .int .u32 0, .str []] [(0, 8, AE e)])) = some (Z (.sl s.size 0 1 (.known 1)), s') ∧ aAppend 8 72 (Z o) (Z (.sl s.size 0 1 (.known 1))) s' = some (Z x', t) ∧ Both s0 t x' y (l ++ [e]) ns := by
  obtain ⟨x', t, s', e1, e2, f, hz, hk, ho⟩ := FE.lit' (e := e) h.out hl
  refine ⟨x', t, s', e1, e2, f, Fr_other h.there f.gr hz fun c hc => hk c (h.there.new c hc).2 fun hh => h.ne c hh hc, fun c hc hy => ?_⟩
  rcases ho with h1 | h1 | ⟨c', h1, h2⟩
  · rw [h1] at hc; cases hc
  · rw [h1] at hc; exact h.ne c hc hy
  · rw [h1] at hc
    cases hc
    have := (h.there.new c hy).2
    omega

theorem Both.app {s0 : St} {o z : S} {ns ms ks : List Nat} (h : Both s0 s o y l ns) (hy : Fr 1 s0 s x ks.length (N64 ks)) (hox : own x = own y) (hz : aSrc 1 (Z z) s.get = some (ms.length, N64 ms)) (hl : (ks.length + ms.length) * 8 ≤ 140737488355328) :
    ∃ y' t, aAppend 1 8 (Z x) (Z z) s = some (Z y', t) ∧ Both s0 t o y' l (ks ++ ms) := by
  obtain ⟨y', t, e1, f, hzz, hk, ho⟩ := hy.append' (by_ := 8) (by omega) hz (by simp) hl
  refine ⟨y', t, e1, Fr_other h.out f.gr hzz fun c hc => hk c (h.out.new c hc).2 fun hh => h.ne c hc (by rw [← hox]; exact hh), ?_, fun c hc hy' => ?_⟩
  · rw [List.length_append]
    have : N64 (ks ++ ms) = N64 ks ++ N64 ms := by simp [N64]
    rw [this]
    exact f
  · rcases ho with h1 | h1 | ⟨c', h1, h2⟩
    · rw [h1] at hy'; cases hy'
    · rw [h1, hox] at hy'; exact h.ne c hc hy'
    · rw [h1] at hy'
      cases hy'
      have := (h.out.new c hc).2
      omega

theorem rem_nat (k : IntKind) (a b : Nat) (h : 0 < b) : aBin .rem (I k a) (I k b) = some (I k ((a % b : Nat))) := by
  rw [rem_int _ _ _ (by omega)]; rfl
theorem quo_nat (k : IntKind) (a b : Nat) (h : 0 < b) (hw : k.wrap ((a / b : Nat) : Int) = ((a / b : Nat) : Int)) : aBin .quo (I k a) (I k b) = some (I k ((a / b : Nat))) := by
  rw [quo_int _ _ _ (by omega)]
  have : Int.tdiv (a : Int) (b : Int) = ((a / b : Nat) : Int) := rfl
  rw [this, hw]


theorem rowK_eq (v : Int) : IntKind.u64.wrap v = ((rowK v : Nat) : Int) := (Int.toNat_of_nonneg (wrap_u64 v)).symm
theorem rowK_lt (v : Int) : rowK v < 2 ^ 64 := by
  have : IntKind.u64.wrap v < 2 ^ 64 := by
    unfold IntKind.wrap
    simp [IntKind.signed, IntKind.bits]
    omega
  rw [rowK_eq] at this
  omega

/-- What the rows' counters are at most. -/
structure RowOk (σ : RowSt) (n : Nat) : Prop where
  out : σ.out.length = n
  there : σ.there.length ≤ n
  view : σ.view ≤ n
  id : σ.id ≤ n
  at_ : σ.at_ ≤ 30 * n

theorem RowOk.step {σ : RowSt} {n : Nat} (h : RowOk σ n) (k : Nat) : RowOk (rowStep σ k) (n + 1) := by
  obtain ⟨h1, h2, h3, h4, h5⟩ := h
  unfold rowStep
  split
  · exact ⟨by simp [h1], by show σ.there.length ≤ _; omega, by show σ.view + 1 ≤ _; omega, by show σ.id ≤ _; omega, by show σ.at_ ≤ _; omega⟩
  · split
    · exact ⟨by simp [h1], by show σ.there.length ≤ _; omega, by show σ.view ≤ _; omega, by show σ.id ≤ _; omega, by show σ.at_ ≤ _; omega⟩
    · split
      · exact ⟨by simp [h1], by simp; omega, by show σ.view ≤ _; omega, by show σ.id ≤ _; omega, by show σ.at_ ≤ _; omega⟩
      · exact ⟨by simp [h1], by simp; omega, by show σ.view ≤ _; omega, by show σ.id + 1 ≤ _; omega, by show σ.at_ + 1 + k / 8 % 30 ≤ _; have := Nat.mod_lt (k / 8) (show 0 < 30 by decide); omega⟩

abbrev rowV (x o y : S) (σ : RowSt) (n : Nat) : List T := [Z x, Z o, Z y, I .i64 (σ.view : Nat), I .i64 (σ.id : Nat), I .i64 (σ.at_ : Nat), I .i64 (n : Nat)]

theorem rows_step (d : Nat) {s0 : St} {o : S} {σ : RowSt} {n : Nat} {is : List Int} (hx : Rd 1 s x is.length (I64 is)) (h : Both s0 s o y σ.out σ.there) (ok : RowOk σ n) (hn : n < is.length) (hn40 : n < 40) :
    ∃ o' y' t, f27_l1 (R d) 8192 (rowV x o y σ n) s = some (.normal (rowV x o' y' (rowStep σ (rowK is[n])) (n + 1)), t) ∧ Both s0 t o' y' (rowStep σ (rowK is[n])).out (rowStep σ (rowK is[n])).there := by
  have hll := hx.lens
  obtain ⟨p, ix, ld⟩ := hx.at1 (j := n) (i := (n : Int)) (v := .int .i64 is[n]) rfl (by simp [I64, hn])
  have hK := rowK_eq is[n]
  have hKl := rowK_lt is[n]
  generalize rowK is[n] = K at *
  generalize is[n] = v at *
  obtain ⟨ok1, ok2, ok3, ok4, ok5⟩ := ok
  obtain ⟨out, there, view, id, at_⟩ := σ
  simp only at ok1 ok2 ok3 ok4 ok5 h
  have c0 : (n : Int) < (is.length : Int) := by omega
  have c1 : (n : Int) < 40 := by omega
  have w1 : IntKind.i64.wrap ((n : Int) + 1) = ((n + 1 : Nat) : Int) := by rw [wrap_in _ (by omega) (by omega)]; omega
  have r8 : aBin .rem (I .u64 (K : Nat)) (I .u64 8) = some (I .u64 ((K % 8 : Nat))) := rem_nat .u64 K 8 (by decide)
  have q8 : aBin .quo (I .u64 (K : Nat)) (I .u64 8) = some (I .u64 ((K / 8 : Nat))) := quo_nat .u64 K 8 (by decide) (wrap64 _ (by omega))
  have e7 : decide (((K % 8 : Nat) : Int) = 7) = decide (K % 8 = 7) := decide_eq_decide.2 (by omega)
  have e6 : decide (((K % 8 : Nat) : Int) = 6) = decide (K % 8 = 6) := decide_eq_decide.2 (by omega)
  have e3 : decide (3 < ((K % 8 : Nat) : Int)) = decide (3 < K % 8) := decide_eq_decide.2 (by omega)
  generalize ((K % 8 : Nat) : Int) = C8 at *
  by_cases k7 : K % 8 = 7
  · have hs : rowStep ⟨out, there, view, id, at_⟩ K = ⟨out ++ [{ ent0 with k := 3, v := (view + 1 : Nat) }], there, view + 1, id, at_⟩ := by unfold rowStep; rw [if_pos k7]
    rw [hs]
    have w2 : IntKind.i64.wrap ((view : Int) + 1) = ((view + 1 : Nat) : Int) := by rw [wrap_in _ (by omega) (by omega)]; omega
    have ag : asAggT (aFill [.int .i64 0, .int .i64 0, .int .i64 0, .int .i64 0, .int .i64 0, .int .i64 0, .int .u32 0, .str []] [(0, 1, (I .i64 3)), (1, 1, I .i64 ((view + 1 : Nat) : Int))]) = some (AE { ent0 with k := 3, v := (view + 1 : Nat) }) := rfl
    obtain ⟨o', t, s', nw, ap, b⟩ := Both.lit (e := { ent0 with k := 3, v := (view + 1 : Nat) }) h (by omega)
    refine ⟨o', y, t, ?_, b⟩
    rw [decide_eq_true k7] at e7
    unfold f27_l1 rowV
    generalize ((view + 1 : Nat) : Int) = V1 at *
    generalize ((n + 1 : Nat) : Int) = N1 at *
    generalize ((is.length : Nat) : Int) = L at *
    generalize ((K : Nat) : Int) = KK at *
    simp [hll, c0, c1, ix, ld, hK, r8, e7, w2, ag, nw, ap, w1]
  · rw [decide_eq_false k7] at e7
    by_cases k6 : K % 8 = 6
    · have hs : rowStep ⟨out, there, view, id, at_⟩ K = ⟨out ++ [{ ent0 with k := 4, v := (view : Nat), x := sealB (K / 8 % 3) }], there, view, id, at_⟩ := by unfold rowStep; rw [if_neg k7, if_pos k6]
      rw [hs]
      rw [decide_eq_true k6] at e6
      obtain ⟨s3, hs3⟩ : ∃ s3, s3 = s.push (.cells true [.str [49], .str [57], .str [51, 51]]) := ⟨_, rfl⟩
      have nw0 : aNew s (nSlice 3 (aFill [.str [], .str [], .str []] [(0, 1, (Z (.str [49]))), (1, 1, (Z (.str [57]))), (2, 1, (Z (.str [51, 51])))])) = some (Z (.sl s.size 0 3 (.known 3)), s3) := by rw [hs3]; rfl
      have g3 : Gr s s3 := by rw [hs3]; exact Gr.push h.out.gr.1 _
      have b3 : s3.get s.size = some (.cells true [.str [49], .str [57], .str [51, 51]]) := by rw [hs3]; exact St.get_push_same _ _
      have hb3 : Both s0 s3 o y out there := ⟨h.out.gr' g3, h.there.gr' g3, h.ne⟩
      have r3 : aBin .rem (I .u64 ((K / 8 : Nat))) (I .u64 3) = some (I .u64 ((K / 8 % 3 : Nat))) := rem_nat .u64 (K / 8) 3 (by decide)
      have hj : K / 8 % 3 < 3 := Nat.mod_lt _ (by decide)
      obtain ⟨w, z, ix2, ld2, ad⟩ : ∃ w z, aIndexSl 1 (Z (.sl s.size 0 3 (.known 3))) (I .u64 ((K / 8 % 3 : Nat))) = some w ∧ aLoad1 w s3.get = some (Z (.str z)) ∧ aBin .add (Z (.str [115, 101, 97, 108, 32])) (Z (.str z)) = some (Z (.str (sealB (K / 8 % 3)))) := by
        generalize K / 8 % 3 = J at hj
        rcases (by omega : J = 0 ∨ J = 1 ∨ J = 2) with rfl | rfl | rfl
        · exact ⟨_, _, rfl, aLoad1_of b3 rfl, str_add _ _ (by decide)⟩
        · exact ⟨_, _, rfl, aLoad1_of b3 rfl, str_add _ _ (by decide)⟩
        · exact ⟨_, _, rfl, aLoad1_of b3 rfl, str_add _ _ (by decide)⟩
      have ag : asAggT (aFill [.int .i64 0, .int .i64 0, .int .i64 0, .int .i64 0, .int .i64 0, .int .i64 0, .int .u32 0, .str []] [(0, 1, (I .i64 4)), (1, 1, I .i64 ((view : Nat) : Int)), (7, 1, Z (.str (sealB (K / 8 % 3))))]) = some (AE { ent0 with k := 4, v := (view : Nat), x := sealB (K / 8 % 3) }) := rfl
      obtain ⟨o', t, s', nw, ap, b⟩ := Both.lit (e := { ent0 with k := 4, v := (view : Nat), x := sealB (K / 8 % 3) }) hb3 (by omega)
      refine ⟨o', y, t, ?_, b⟩
      unfold f27_l1 rowV
      generalize sealB (K / 8 % 3) = SB at *
      generalize ((K / 8 % 3 : Nat) : Int) = K83 at *
      generalize ((K / 8 : Nat) : Int) = K8 at *
      generalize ((K : Nat) : Int) = KK at *
      generalize ((n + 1 : Nat) : Int) = N1 at *
      generalize ((is.length : Nat) : Int) = L at *
      simp [hll, c0, c1, ix, ld, hK, r8, e7, e6, nw0, q8, r3, ix2, ld2, ad, ag, nw, ap, w1]
    · rw [decide_eq_false k6] at e6
      have tl := h.there.rd.lens
      by_cases k3 : 3 < K % 8 ∧ 0 < there.length
      · obtain ⟨k3, kt⟩ := k3
        rw [decide_eq_true k3] at e3
        have hs : rowStep ⟨out, there, view, id, at_⟩ K = ⟨out ++ [{ ent0 with k := 2, v := (view : Nat), i := (there.getD (K / 8 % there.length) 0 : Nat) }], there.take (K / 8 % there.length) ++ there.drop (K / 8 % there.length + 1), view, id, at_⟩ := by
          unfold rowStep; rw [if_neg k7, if_neg k6, if_pos ⟨k3, kt⟩]
        rw [hs]
        have hj : K / 8 % there.length < there.length := Nat.mod_lt _ kt
        have w2 : IntKind.u64.wrap ((there.length : Nat) : Int) = ((there.length : Nat) : Int) := wrap64 _ (by omega)
        have r3 : aBin .rem (I .u64 ((K / 8 : Nat))) (I .u64 (there.length : Nat)) = some (I .u64 ((K / 8 % there.length : Nat))) := rem_nat .u64 (K / 8) there.length kt
        generalize K / 8 % there.length = J at *
        have w3 : IntKind.i64.wrap ((J : Nat) : Int) = ((J : Nat) : Int) := wrapi _ (by omega)
        have w4 : IntKind.i64.wrap ((J : Int) + 1) = ((J + 1 : Nat) : Int) := by rw [wrap_in _ (by omega) (by omega)]; omega
        have g0 : decide (0 < ((there.length : Nat) : Int)) = true := decide_eq_true (by omega)
        obtain ⟨p2, ix2, ld2⟩ := h.there.rd.at1 (j := J) (i := (J : Int)) (v := .int .i64 ((there.getD J 0 : Nat) : Int)) rfl (by simp [N64, hj])
        have ag : asAggT (aFill [.int .i64 0, .int .i64 0, .int .i64 0, .int .i64 0, .int .i64 0, .int .i64 0, .int .u32 0, .str []] [(0, 1, (I .i64 2)), (1, 1, I .i64 ((view : Nat) : Int)), (2, 1, I .i64 ((there.getD J 0 : Nat) : Int))]) = some (AE { ent0 with k := 2, v := (view : Nat), i := (there.getD J 0 : Nat) }) := rfl
        obtain ⟨o', t, s', nw, ap, b⟩ := Both.lit (e := { ent0 with k := 2, v := (view : Nat), i := (there.getD J 0 : Nat) }) h (by omega)
        obtain ⟨y1, p1, ow1, oy1⟩ := Ow_cut b.there.ow kt (j := J) (by omega)
        obtain ⟨y2, p2', rd2, _⟩ := b.there.rd.onfrom (lo := J + 1) (by omega)
        have ht : N64 (there.take J) = (N64 there).take (J * 1) := by simp [N64, List.map_take]
        have hd : N64 (there.drop (J + 1)) = (N64 there).drop ((J + 1) * 1) := by simp [N64, List.map_drop]
        have lt : (there.take J).length = J := by rw [List.length_take]; omega
        have ld' : (there.drop (J + 1)).length = there.length - (J + 1) := by rw [List.length_drop]
        obtain ⟨y', t2, ap2, b2⟩ := b.app (x := y1) (z := y2) (ks := there.take J) (ms := there.drop (J + 1)) ⟨b.there.gr, by rw [lt, ht]; exact ow1, fun c hc => b.there.new c (by rw [← oy1]; exact hc)⟩ oy1 (by rw [ld', hd]; exact rd2.src) (by rw [lt, ld']; omega)
        refine ⟨o', y', t2, ?_, b2⟩
        unfold f27_l1 rowV
        generalize ((there.getD J 0 : Nat) : Int) = TJ at *
        generalize ((J + 1 : Nat) : Int) = J1 at *
        generalize ((J : Nat) : Int) = JJ at *
        generalize ((there.length : Nat) : Int) = TL at *
        generalize ((K / 8 : Nat) : Int) = K8 at *
        generalize ((K : Nat) : Int) = KK at *
        generalize ((n + 1 : Nat) : Int) = N1 at *
        generalize ((is.length : Nat) : Int) = L at *
        simp [hll, c0, c1, ix, ld, hK, r8, e7, e6, e3, tl, g0, q8, w2, r3, w3, ix2, ld2, ag, nw, ap, p1, w4, p2', ap2, w1]
      · have hs : rowStep ⟨out, there, view, id, at_⟩ K = ⟨out ++ [{ k := 1, v := (view : Nat), i := (id + 1 : Nat), t := (K / 8 % 4 : Nat), f := (at_ : Nat), o := (at_ + 1 + K / 8 % 30 : Nat), u := (K % 4294967296 : Nat), x := [] }], there ++ [id + 1], view, id + 1, at_ + 1 + K / 8 % 30⟩ := by
          unfold rowStep; rw [if_neg k7, if_neg k6, if_neg k3]
        rw [hs]
        have w2 : IntKind.i64.wrap ((id : Int) + 1) = ((id + 1 : Nat) : Int) := by rw [wrap_in _ (by omega) (by omega)]; omega
        have w3 : IntKind.i64.wrap ((at_ : Int) + 1) = ((at_ + 1 : Nat) : Int) := by rw [wrap_in _ (by omega) (by omega)]; omega
        have r3 : aBin .rem (I .u64 ((K / 8 : Nat))) (I .u64 30) = some (I .u64 ((K / 8 % 30 : Nat))) := rem_nat .u64 (K / 8) 30 (by decide)
        have r4 : aBin .rem (I .u64 ((K / 8 : Nat))) (I .u64 4) = some (I .u64 ((K / 8 % 4 : Nat))) := rem_nat .u64 (K / 8) 4 (by decide)
        have l3 : K / 8 % 30 < 30 := Nat.mod_lt _ (by decide)
        have l4 : K / 8 % 4 < 4 := Nat.mod_lt _ (by decide)
        have w4 : IntKind.i64.wrap ((K / 8 % 30 : Nat) : Int) = ((K / 8 % 30 : Nat) : Int) := wrapi _ (by omega)
        have w5 : IntKind.i64.wrap ((K / 8 % 4 : Nat) : Int) = ((K / 8 % 4 : Nat) : Int) := wrapi _ (by omega)
        have w6 : IntKind.i64.wrap (((at_ + 1 : Nat) : Int) + ((K / 8 % 30 : Nat) : Int)) = ((at_ + 1 + K / 8 % 30 : Nat) : Int) := by rw [wrap_in _ (by omega) (by omega)]; omega
        have w7 : IntKind.u32.wrap ((K : Nat) : Int) = ((K % 4294967296 : Nat) : Int) := wrap32 K
        have ag : asAggT (aFill [.int .i64 0, .int .i64 0, .int .i64 0, .int .i64 0, .int .i64 0, .int .i64 0, .int .u32 0, .str []] [(0, 1, (I .i64 1)), (1, 1, I .i64 ((view : Nat) : Int)), (2, 1, I .i64 ((id + 1 : Nat) : Int)), (3, 1, I .i64 ((K / 8 % 4 : Nat) : Int)), (4, 1, I .i64 ((at_ : Nat) : Int)), (5, 1, I .i64 ((at_ + 1 + K / 8 % 30 : Nat) : Int)), (6, 1, I .u32 ((K % 4294967296 : Nat) : Int))]) =
          some (AE { k := 1, v := (view : Nat), i := (id + 1 : Nat), t := (K / 8 % 4 : Nat), f := (at_ : Nat), o := (at_ + 1 + K / 8 % 30 : Nat), u := (K % 4294967296 : Nat), x := [] }) := rfl
        obtain ⟨o', t, s', nw, ap, b⟩ := Both.lit (e := { k := 1, v := (view : Nat), i := (id + 1 : Nat), t := (K / 8 % 4 : Nat), f := (at_ : Nat), o := (at_ + 1 + K / 8 % 30 : Nat), u := (K % 4294967296 : Nat), x := [] }) h (by omega)
        have L := Fr.lit 1 b.out.gr.1 (n := 1) (vs := N64 [id + 1]) rfl
        have nw2 : aNew t (nSlice 1 (aFill [.int .i64 0] [(0, 1, I .i64 ((id + 1 : Nat) : Int))])) = some (Z (.sl t.size 0 1 (.known 1)), t.push (.cells true (N64 [id + 1]))) := rfl
        obtain ⟨t1, ht1⟩ : ∃ t1, t1 = t.push (.cells true (N64 [id + 1])) := ⟨_, rfl⟩
        rw [← ht1] at L nw2
        have b1 : Both s0 t1 o' y (out ++ [{ k := 1, v := (view : Nat), i := (id + 1 : Nat), t := (K / 8 % 4 : Nat), f := (at_ : Nat), o := (at_ + 1 + K / 8 % 30 : Nat), u := (K % 4294967296 : Nat), x := [] }]) there := ⟨b.out.gr' L.gr, b.there.gr' L.gr, b.ne⟩
        obtain ⟨y', t2, ap2, b2⟩ := b1.app (x := y) (z := .sl t.size 0 1 (.known 1)) (ks := there) (ms := [id + 1]) b1.there rfl L.rd.src (by simp; omega)
        refine ⟨o', y', t2, ?_, b2⟩
        have g3 : (decide (3 < C8) = false) ∨ (decide (3 < C8) = true ∧ decide (0 < ((there.length : Nat) : Int)) = false) := by
          by_cases hk : 3 < K % 8
          · exact .inr ⟨by rw [e3]; exact decide_eq_true hk, decide_eq_false (by omega)⟩
          · exact .inl (by rw [e3]; exact decide_eq_false hk)
        unfold f27_l1 rowV
        generalize ((id + 1 : Nat) : Int) = ID1 at *
        generalize ((at_ + 1 + K / 8 % 30 : Nat) : Int) = AT2 at *
        generalize ((at_ + 1 : Nat) : Int) = AT1 at *
        generalize ((K / 8 % 30 : Nat) : Int) = K30 at *
        generalize ((K / 8 % 4 : Nat) : Int) = K4 at *
        generalize ((K % 4294967296 : Nat) : Int) = K32 at *
        generalize ((there.length : Nat) : Int) = TL at *
        generalize ((K / 8 : Nat) : Int) = K8 at *
        generalize ((K : Nat) : Int) = KK at *
        generalize ((n + 1 : Nat) : Int) = N1 at *
        generalize ((is.length : Nat) : Int) = L' at *
        clear e3
        rcases g3 with g3 | ⟨g3, g4⟩
        · simp [hll, c0, c1, ix, ld, hK, r8, e7, e6, g3, q8, r3, r4, w2, w3, w4, w5, w6, w7, ag, nw, ap, nw2, ap2, w1]
        · simp [hll, c0, c1, ix, ld, hK, r8, e7, e6, g3, tl, g4, q8, r3, r4, w2, w3, w4, w5, w6, w7, ag, nw, ap, nw2, ap2, w1]

theorem rowsG_succ (ks : List Nat) (k : Nat) : rowsG (ks ++ [k]) = rowStep (rowsG ks) k := by simp [rowsG]

theorem rows_run (d : Nat) (wf : s.wf) {is : List Int} (hx : Rd 1 s x is.length (I64 is)) (hox : ∀ c, own x = some c → c < s.size) : ∃ o t, R (d + 1) 27 [Z x] s = some (Z o, t) ∧ FE s t o (rowsE is) := by
  rw [f27_run]
  unfold f27
  obtain ⟨j, τ, lp, o, hj, f⟩ := loops_inv (f := f27_l1 (R d) 8192) (fun q v u => ∃ (n : Nat) (o y : S), q + n = min is.length 40 ∧ v = rowV x o y (rowsG ((is.take n).map rowK)) n ∧ Both s u o y (rowsG ((is.take n).map rowK)).out (rowsG ((is.take n).map rowK)).there ∧ RowOk (rowsG ((is.take n).map rowK)) n)
    (fun j u => ∃ o, j = .exit 0 [Z o] ∧ FE s u o (rowsE is)) (by
    rintro q v u ⟨n, o, y, hq, rfl, b, ok⟩
    by_cases hn : n < is.length ∧ n < 40
    · left
      have htk : (is.take (n + 1)).map rowK = (is.take n).map rowK ++ [rowK (is[n]'hn.1)] := by
        rw [List.take_add_one, List.getElem?_eq_getElem hn.1, Option.toList_some, List.map_append]
        rfl
      have hr : Rd 1 u x is.length (I64 is) := hx.gr hox b.out.gr
      obtain ⟨o', y', t, e, b'⟩ := rows_step d hr b ok hn.1 hn.2
      have ok' := ok.step (rowK (is[n]'hn.1))
      rw [← rowsG_succ, ← htk] at e b' ok'
      exact ⟨_, t, q - 1, e, by omega, n + 1, o', y', by omega, rfl, b', ok'⟩
    · right
      have hll := hx.lens
      have htk : is.take n = is.take 40 := by
        rcases Nat.lt_or_ge n is.length with h1 | h1
        · obtain rfl : n = 40 := by omega
          rfl
        · rw [List.take_of_length_le h1, List.take_of_length_le (by omega)]
      refine ⟨.exit 0 [Z o], u, ?_, (fun v hv => by cases hv), o, rfl, by unfold rowsE; rw [← htk]; exact b.out⟩
      unfold f27_l1 rowV
      by_cases h1 : n < is.length
      · have c0 : decide ((n : Int) < (is.length : Int)) = true := decide_eq_true (by omega)
        have c1 : decide ((n : Int) < 40) = false := decide_eq_false (by omega)
        generalize ((is.length : Nat) : Int) = L at *
        generalize ((n : Nat) : Int) = NN at *
        simp [hll, c0, c1]
      · have c0 : decide ((n : Int) < (is.length : Int)) = false := decide_eq_false (by omega)
        generalize ((is.length : Nat) : Int) = L at *
        generalize ((n : Nat) : Int) = NN at *
        simp [hll, c0, gtt]) 8192 (min is.length 40) [Z x, Z .nils, Z .nils, I .i64 0, I .i64 0, I .i64 0, I .i64 0] s
    ⟨0, .nils, .nils, by omega, rfl, ⟨Fr.nil 8 wf, Fr.nil 1 wf, fun c hc => by cases hc⟩, ⟨rfl, Nat.le_refl _, Nat.le_refl _, Nat.le_refl _, Nat.le_refl _⟩⟩ (by omega)
  subst hj
  exact ⟨o, τ, by simp [lp], f⟩
end

/-! ### Rows may be -/

theorem seal_ok : ∀ n, n < 3 → (parseP (sealB n)).2.1 = 0 := by decide +kernel

structure RowMay (σ : RowSt) (n : Nat) : Prop where
  ok : RowOk σ n
  may : σ.out.all mayE = true
  wf : ∀ e ∈ σ.out, EWf e
  there : ∀ k ∈ σ.there, 1 ≤ k ∧ k ≤ n

theorem may3 (v : Nat) (h : 0 < v) (k : v ≤ 1000) : mayE { ent0 with k := 3, v := (v : Nat) } = true := by
  unfold mayE
  rw [if_neg (by simp only; omega)]
  simp [ent0]
  omega
theorem may4 (v n : Nat) (k : v ≤ 1000) (hn : n < 3) : mayE { ent0 with k := 4, v := (v : Nat), x := sealB n } = true := by
  unfold mayE
  rw [if_neg (by simp only; omega)]
  have h1 := seal_ok n hn
  have h2 : (sealB n).length ≤ 300 := by unfold sealB; split <;> (try split) <;> simp
  simp [ent0, h1, h2]
theorem may2 (v i : Nat) (k : v ≤ 1000) (h1 : 1 ≤ i) (h2 : i ≤ 1000) : mayE { ent0 with k := 2, v := (v : Nat), i := (i : Nat) } = true := by
  unfold mayE
  rw [if_neg (by simp only; omega)]
  simp [ent0, idOk]
  omega
theorem may1 (v i t f o u : Nat) (k : v ≤ 1000) (h1 : 1 ≤ i) (h2 : i ≤ 1000) (h3 : t < 4) (h4 : f < o) (h5 : o ≤ 100000) : mayE { k := 1, v := (v : Nat), i := (i : Nat), t := (t : Nat), f := (f : Nat), o := (o : Nat), u := (u : Nat), x := [] } = true := by
  unfold mayE
  rw [if_neg (by simp only; omega)]
  simp [idOk]
  omega

theorem RowMay.step {σ : RowSt} {n : Nat} (h : RowMay σ n) (hn : n < 40) (k : Nat) : RowMay (rowStep σ k) (n + 1) := by
  have ok := h.ok.step k
  obtain ⟨⟨h1, h2, h3, h4, h5⟩, may, wf, there⟩ := h
  have all : ∀ {l : List Ent} {e : Ent}, l.all mayE = true → mayE e = true → (l ++ [e]).all mayE = true := fun a b => by simp only [List.all_append, a, List.all_cons, b, List.all_nil]; rfl
  have wfs : ∀ {l : List Ent} {e : Ent}, (∀ x ∈ l, EWf x) → EWf e → ∀ x ∈ l ++ [e], EWf x := fun a b x hx => by
    rcases List.mem_append.1 hx with h | h
    · exact a x h
    · rw [List.mem_singleton.1 h]; exact b
  have main : (rowStep σ k).out.all mayE = true ∧ (∀ e ∈ (rowStep σ k).out, EWf e) ∧ ∀ i ∈ (rowStep σ k).there, 1 ≤ i ∧ i ≤ n + 1 := by
   unfold rowStep
   split
   · exact ⟨all may (may3 _ (by omega) (by omega)), wfs wf ⟨by simp [ent0], by simp [ent0]⟩, fun x hx => by have := there x hx; omega⟩
   · split
     · exact ⟨all may (may4 _ _ (by omega) (Nat.mod_lt _ (by decide))), wfs wf ⟨by simp [ent0], by simp [ent0]⟩, fun x hx => by have := there x hx; omega⟩
     · split
       · rename_i hc
         have hj : k / 8 % σ.there.length < σ.there.length := Nat.mod_lt _ hc.2
         have hm := there _ (List.getElem_mem hj)
         refine ⟨all may (may2 _ _ (by omega) ?_ ?_), wfs wf ⟨by simp [ent0], by simp [ent0]⟩, fun x hx => ?_⟩
         · rw [List.getD_eq_getElem?_getD, List.getElem?_eq_getElem hj, Option.getD_some]; exact hm.1
         · rw [List.getD_eq_getElem?_getD, List.getElem?_eq_getElem hj, Option.getD_some]; omega
         · have : x ∈ σ.there := by
             rcases List.mem_append.1 hx with h | h
             · exact List.mem_of_mem_take h
             · exact List.mem_of_mem_drop h
           have := there x this
           omega
       · have l3 : k / 8 % 30 < 30 := Nat.mod_lt _ (by decide)
         refine ⟨all may (may1 _ _ _ _ _ _ (by omega) (by omega) (by omega) (Nat.mod_lt _ (by decide)) (by omega) (by omega)), wfs wf ⟨by simp only; omega, by simp only; omega⟩, fun x hx => ?_⟩
         rcases List.mem_append.1 hx with h | h
         · have := there x h; omega
         · rw [List.mem_singleton.1 h]; omega
  exact ⟨ok, main.1, main.2.1, main.2.2⟩

theorem rowsG_may : ∀ (ks : List Nat), ks.length ≤ 40 → RowMay (rowsG ks) ks.length := by
  suffices ∀ n (ks : List Nat), ks.length = n → n ≤ 40 → RowMay (rowsG ks) n from fun ks h => this _ ks rfl h
  intro n
  induction n with
  | zero =>
    intro ks h _
    obtain rfl := List.eq_nil_of_length_eq_zero h
    exact ⟨⟨rfl, Nat.le_refl _, Nat.le_refl _, Nat.le_refl _, Nat.le_refl _⟩, rfl, (fun _ h => by cases h), (fun _ h => by cases h)⟩
  | succ n ih =>
    intro ks h hn
    have hne : ks ≠ [] := fun e => by rw [e] at h; cases h
    rw [← List.dropLast_concat_getLast hne, rowsG_succ]
    exact (ih ks.dropLast (by rw [List.length_dropLast]; omega) (by omega)).step (by omega) _

theorem rowStep_x {σ : RowSt} (h : ∀ e ∈ σ.out, e.x.length ≤ 10) (k : Nat) : ∀ e ∈ (rowStep σ k).out, e.x.length ≤ 10 := by
  have add : ∀ {l : List Ent} {e : Ent}, (∀ x ∈ l, x.x.length ≤ 10) → e.x.length ≤ 10 → ∀ x ∈ l ++ [e], x.x.length ≤ 10 := fun a b x hx => by
    rcases List.mem_append.1 hx with h | h
    · exact a x h
    · rw [List.mem_singleton.1 h]; exact b
  unfold rowStep
  split
  · exact add h (by simp [ent0])
  · split
    · exact add h (by unfold sealB; simp only; split <;> (try split) <;> simp)
    · split
      · exact add h (by simp [ent0])
      · exact add h (by simp)

theorem rowsG_x (ks : List Nat) : ∀ e ∈ (rowsG ks).out, e.x.length ≤ 10 := by
  unfold rowsG
  suffices ∀ (ks : List Nat) σ, (∀ e ∈ σ.out, e.x.length ≤ 10) → ∀ e ∈ (ks.foldl rowStep σ).out, e.x.length ≤ 10 from this ks _ (fun e h => by cases h)
  intro ks
  induction ks with
  | nil => intro σ h; exact h
  | cons k r ih => intro σ h; exact ih _ (rowStep_x h k)

theorem framesB_len' : ∀ l : List Ent, (∀ e ∈ l, e.x.length ≤ 10) → (framesB l).length ≤ 92 * l.length
  | [], _ => by simp [framesB]
  | e :: r, h => by
    have h1 := framesB_len' r fun x hx => h x (by simp [hx])
    have h2 : e.x.length ≤ 10 := h e (by simp)
    have h3 := vput_len e.v.toNat
    have h4 := putNs_len (nums e)
    have h5 := nums_len e
    have h6 := wrapB_len (putB e)
    have h7 : (putB e).length ≤ 77 := by simp [putB]; omega
    simp [framesB]
    omega

theorem rowsE_len (vs : List Int) : (framesB (rowsE vs)).length ≤ 3680 := by
  have h1 := framesB_len' (rowsE vs) (rowsG_x _)
  have h2 : (rowsE vs).length ≤ 40 := by
    have hl : ((vs.take 40).map rowK).length ≤ 40 := by simp; omega
    have h := rowsG_may _ hl
    unfold rowsE
    rw [h.ok.out]
    exact hl
  omega

theorem rowsE_may (vs : List Int) : (rowsE vs).all mayE = true ∧ (∀ e ∈ rowsE vs, EWf e) ∧ (rowsE vs).length ≤ 40 := by
  have hl : ((vs.take 40).map rowK).length ≤ 40 := by simp; omega
  have h := rowsG_may _ hl
  exact ⟨h.may, h.wf, by unfold rowsE; rw [h.ok.out]; exact hl⟩
end Go.Proofs.YtlhbidbdmdcdeaaGreatDoor

/-
  The rows of the laws are taken; what was there, what is. No conditions but those named in each line.
-/
namespace Go.Proofs.YtlhbidbdmdcdeaaGreatDoor
open Go Go.Abs Go.Abs.F
set_option linter.unusedVariables false

theorem foldGo_cons (q : FoS) (e : Ent) (l : List Ent) : foldGo q (e :: l) = if asksP q e = 0 then foldGo (nextP q e) l else (asksP q e, q) := rfl

theorem foldGo_append : ∀ (a b : List Ent) (q : FoS), foldGo q (a ++ b) = if (foldGo q a).1 = 0 then foldGo (foldGo q a).2 b else foldGo q a
  | [], b, q => by simp [foldGo]
  | e :: a, b, q => by
    rw [List.cons_append, foldGo_cons, foldGo_cons]
    by_cases h : asksP q e = 0
    · rw [if_pos h, if_pos h, foldGo_append a b]
    · rw [if_neg h, if_neg h, if_neg h]

theorem foldGo_one (q : FoS) (e : Ent) : foldGo q [e] = if asksP q e = 0 then (0, nextP q e) else (asksP q e, q) := by
  unfold foldGo
  split <;> simp [foldGo]

theorem foldGo_ok : ∀ (l : List Ent) (q : FoS), FOk q → FOk (foldGo q l).2
  | [], q, h => h
  | e :: l, q, h => by
    unfold foldGo
    split
    · rename_i ha
      exact foldGo_ok l _ (next_ok h ha)
    · exact h

/-- Each beginning of a list that is taken is taken. -/
theorem foldGo_pre {l : List Ent} {q : FoS} (h : (foldGo q l).1 = 0) (n : Nat) : (foldGo q (l.take n)).1 = 0 := by
  have := foldGo_append (l.take n) (l.drop n) q
  rw [List.take_append_drop] at this
  by_cases h0 : (foldGo q (l.take n)).1 = 0
  · exact h0
  · rw [if_neg h0] at this
    rw [this] at h
    exact h

theorem nextP_w (q : FoS) (e : Ent) : (nextP q e).w = e.v := by
  unfold nextP
  split
  · rfl
  · split
    · rfl
    · split <;> rfl

/-- What the rows so far come to. -/
structure RF (σ : RowSt) (q : FoS) : Prop where
  go : foldGo fs0 σ.out = (0, q)
  ok : FOk q
  ever : ∀ i : Int, i ∈ q.ever ↔ 1 ≤ i ∧ i ≤ (σ.id : Nat)
  there : q.l.map (·.i) = σ.there.map fun n : Nat => ((n : Nat) : Int)
  w : q.w ≤ (σ.view : Nat)

theorem RF.snoc {σ : RowSt} {q : FoS} (h : RF σ q) {e : Ent} (ha : asksP q e = 0) : foldGo fs0 (σ.out ++ [e]) = (0, nextP q e) := by
  rw [foldGo_append, h.go, if_pos rfl, foldGo_one, if_pos ha]

theorem asks_zero {q : FoS} {e : Ent} (hm : mayE e = true) (h1 : ¬ (e.k = 1 ∧ e.i ∈ q.ever)) (h2 : ¬ (e.k = 2 ∧ thereP q.l e.i = false)) (h3 : ¬ e.v < q.w) : asksP q e = 0 := by
  unfold asksP
  rw [if_pos hm, if_neg h1, if_neg h2, if_neg h3]

theorem RF.step {σ : RowSt} {q : FoS} (h : RF σ q) (k : Nat) (hm : ∀ e ∈ (rowStep σ k).out, mayE e = true) : ∃ q', RF (rowStep σ k) q' := by
  have hlen : q.l.length = σ.there.length := by
    have := congrArg List.length h.there
    simpa using this
  have hw := h.w
  unfold rowStep at hm ⊢
  by_cases c7 : k % 8 = 7
  · rw [if_pos c7] at hm ⊢
    obtain ⟨e, he⟩ : ∃ e, e = ({ ent0 with k := 3, v := ((σ.view + 1 : Nat) : Int) } : Ent) := ⟨_, rfl⟩
    rw [← he] at hm ⊢
    have hk : e.k = 3 := by rw [he]
    have hv : e.v = ((σ.view + 1 : Nat) : Int) := by rw [he]
    have ha := asks_zero (q := q) (hm e (by simp)) (by rw [hk]; simp) (by rw [hk]; simp) (by omega)
    have hn : nextP q e = ⟨q.l, q.ever, q.rule, e.v, e.v⟩ := by
      unfold nextP
      rw [if_neg (by omega), if_neg (by omega), if_pos hk]
    exact ⟨nextP q e, h.snoc ha, next_ok h.ok ha, by rw [hn]; exact h.ever, by rw [hn]; exact h.there, by rw [hn, hv]; exact Int.le_refl _⟩
  · rw [if_neg c7] at hm ⊢
    by_cases c6 : k % 8 = 6
    · rw [if_pos c6] at hm ⊢
      obtain ⟨e, he⟩ : ∃ e, e = ({ ent0 with k := 4, v := ((σ.view : Nat) : Int), x := sealB (k / 8 % 3) } : Ent) := ⟨_, rfl⟩
      rw [← he] at hm ⊢
      have hk : e.k = 4 := by rw [he]
      have hv : e.v = ((σ.view : Nat) : Int) := by rw [he]
      have ha := asks_zero (q := q) (hm e (by simp)) (by rw [hk]; simp) (by rw [hk]; simp) (by omega)
      have hn : nextP q e = ⟨q.l, q.ever, (parseP e.x).1, q.v, e.v⟩ := by
        unfold nextP
        rw [if_neg (by omega), if_neg (by omega), if_neg (by omega)]
      exact ⟨nextP q e, h.snoc ha, next_ok h.ok ha, by rw [hn]; exact h.ever, by rw [hn]; exact h.there, by rw [hn, hv]; exact Int.le_refl _⟩
    · rw [if_neg c6] at hm ⊢
      by_cases cd : 3 < k % 8 ∧ 0 < σ.there.length
      · rw [if_pos cd] at hm ⊢
        obtain ⟨j, hj⟩ : ∃ j, j = k / 8 % σ.there.length := ⟨_, rfl⟩
        have hjl : j < σ.there.length := by rw [hj]; exact Nat.mod_lt _ cd.2
        rw [← hj] at hm ⊢
        obtain ⟨e, he⟩ : ∃ e, e = ({ ent0 with k := 2, v := ((σ.view : Nat) : Int), i := ((σ.there.getD j 0 : Nat) : Int) } : Ent) := ⟨_, rfl⟩
        rw [← he] at hm ⊢
        have hk : e.k = 2 := by rw [he]
        have hv : e.v = ((σ.view : Nat) : Int) := by rw [he]
        have hi : e.i = ((σ.there[j] : Nat) : Int) := by
          rw [he, List.getD_eq_getElem?_getD, List.getElem?_eq_getElem hjl]; rfl
        have hq : ∃ y, q.l[j]? = some y ∧ y.i = e.i := by
          have h1 : (q.l.map (·.i))[j]? = some e.i := by
            rw [h.there, List.getElem?_map, List.getElem?_eq_getElem hjl, hi]; rfl
          rw [List.getElem?_map] at h1
          cases hy : q.l[j]? with
          | none => rw [hy] at h1; cases h1
          | some y => rw [hy] at h1; exact ⟨y, rfl, by simpa using h1⟩
        obtain ⟨y, hy, hyi⟩ := hq
        have hth : thereP q.l e.i = true := by
          unfold thereP
          rw [List.any_eq_true]
          exact ⟨y, List.mem_of_getElem? hy, by simpa using hyi⟩
        have hko : kOf q.l e.i = j := tw_len q.l j (by omega) (fun a x ha hx => by
            have := up_at h.ok.up ha hx hy
            exact decide_eq_true (by rw [← hyi]; exact this)) (fun x hx => by rw [hy] at hx; cases hx; exact decide_eq_false (by omega))
        have ha := asks_zero (q := q) (hm e (by simp)) (by rw [hk]; simp) (by rw [hth]; simp) (by omega)
        have hn : nextP q e = ⟨delL q.l e.i, q.ever, q.rule, q.v, e.v⟩ := by
          unfold nextP
          rw [if_neg (by omega), if_pos hk]
        refine ⟨nextP q e, h.snoc ha, next_ok h.ok ha, by rw [hn]; exact h.ever, ?_, by rw [hn, hv]; exact Int.le_refl _⟩
        rw [hn]
        show (delL q.l e.i).map (·.i) = _
        unfold delL
        rw [hko, List.map_append, List.map_take, List.map_drop, h.there, List.map_append, List.map_take, List.map_drop]
      · rw [if_neg cd] at hm ⊢
        obtain ⟨e, he⟩ : ∃ e, e = ({ k := 1, v := ((σ.view : Nat) : Int), i := ((σ.id + 1 : Nat) : Int), t := ((k / 8 % 4 : Nat) : Int), f := ((σ.at_ : Nat) : Int), o := ((σ.at_ + 1 + k / 8 % 30 : Nat) : Int), u := ((k % 4294967296 : Nat) : Int), x := [] } : Ent) := ⟨_, rfl⟩
        rw [← he] at hm ⊢
        have hk : e.k = 1 := by rw [he]
        have hv : e.v = ((σ.view : Nat) : Int) := by rw [he]
        have hi : e.i = ((σ.id + 1 : Nat) : Int) := by rw [he]
        have hni : e.i ∉ q.ever := by rw [h.ever, hi]; omega
        have ha := asks_zero (q := q) (hm e (by simp)) (by intro hh; exact hni hh.2) (by rw [hk]; simp) (by omega)
        have hn : nextP q e = ⟨insL q.l (infE e), q.ever ++ [e.i], q.rule, q.v, e.v⟩ := by
          unfold nextP
          rw [if_pos hk]
        have hko : kOf q.l (infE e).i = q.l.length := tw_len q.l _ (Nat.le_refl _) (fun a x ha hx => by
            have h1 := h.ok.ev x (List.mem_of_getElem? hx)
            rw [h.ever] at h1
            show decide (x.i < e.i) = true
            exact decide_eq_true (by omega)) (fun x hx => by have := (List.getElem?_eq_some_iff.1 hx).1; omega)
        refine ⟨nextP q e, h.snoc ha, next_ok h.ok ha, fun i => ?_, ?_, by rw [hn, hv]; exact Int.le_refl _⟩
        · rw [hn]
          show i ∈ q.ever ++ [e.i] ↔ 1 ≤ i ∧ i ≤ ((σ.id + 1 : Nat) : Int)
          rw [List.mem_append, h.ever, List.mem_singleton, hi]
          omega
        · rw [hn]
          show (insL q.l (infE e)).map (·.i) = (σ.there ++ [σ.id + 1]).map _
          unfold insL
          rw [hko, List.take_length, List.drop_length, List.map_append, h.there, List.map_append]
          show _ ++ [e.i] = _
          rw [hi]
          rfl

theorem rows_rf : ∀ (n : Nat) (ks : List Nat), ks.length = n → n ≤ 40 → ∃ q, RF (rowsG ks) q
  | 0, ks, h, _ => by
    rw [List.length_eq_zero_iff.1 h]
    exact ⟨fs0, rfl, fs0_ok, fun i => by simp [fs0, rowsG]; omega, rfl, Int.le_refl _⟩
  | n + 1, ks, h, hn => by
    rcases List.eq_nil_or_concat ks with rfl | ⟨l, a, rfl⟩
    · simp at h
    · have hl : l.length = n := by simpa using h
      obtain ⟨q, hq⟩ := rows_rf n l hl (by omega)
      have hs : rowsG (l.concat a) = rowStep (rowsG l) a := by simp [rowsG]
      have hm := (rowsG_may (l.concat a) (by omega)).may
      rw [hs] at hm ⊢
      rw [List.all_eq_true] at hm
      exact hq.step a hm

theorem rows_taken (vs : List Int) : (foldGo fs0 (rowsE vs)).1 = 0 := by
  obtain ⟨q, h⟩ := rows_rf ((vs.take 40).map rowK).length ((vs.take 40).map rowK) rfl (by simp; omega)
  unfold rowsE
  rw [h.go]

/-- What a number's history says. -/
structure Sc where
  ever : Bool
  there : Bool
  view : Int
def scStep (k : Int) (s : Sc) (e : Ent) : Sc :=
  ⟨s.ever || (decide (e.k = 1) && decide (e.i = k)), if e.k = 2 ∧ e.i = k then false else (s.there || (decide (e.k = 1) && decide (e.i = k))), e.v⟩

structure ScOk (k : Int) (s : Sc) (q : FoS) : Prop where
  ever : s.ever = decide (k ∈ q.ever)
  there : s.there = thereP q.l k
  view : s.view = q.w

theorem there_ins (l : List Inf) (a : Inf) (k : Int) : thereP (insL l a) k = (thereP l k || decide (a.i = k)) := by
  have h : thereP l k = (thereP (l.take (kOf l a.i)) k || thereP (l.drop (kOf l a.i)) k) := by
    unfold thereP
    rw [← List.any_append, List.take_append_drop]
  rw [h]
  unfold insL thereP
  rw [List.any_append, List.any_cons]
  cases List.any (l.take (kOf l a.i)) _ <;> cases List.any (l.drop (kOf l a.i)) _ <;> cases decide (a.i = k) <;> rfl

theorem there_del {l : List Inf} {i : Int} (hp : l.Pairwise fun a b => a.i < b.i) (h : thereP l i = true) (k : Int) : thereP (delL l i) k = (thereP l k && !decide (i = k)) := by
  have hk := kOf_lt hp h
  have hg : l[kOf l i]? = some l[kOf l i] := List.getElem?_eq_getElem hk
  obtain ⟨y, hy⟩ : ∃ y, y = l[kOf l i] := ⟨_, rfl⟩
  rw [← hy] at hg
  have hsp : l = l.take (kOf l i) ++ y :: l.drop (kOf l i + 1) := by
    conv => lhs; rw [← List.take_append_drop (kOf l i) l, List.drop_eq_getElem_cons hk, ← hy]
  have hyi : y.i = i := by
    unfold thereP at h
    rw [List.any_eq_true] at h
    obtain ⟨x, hx, ex⟩ := h
    have ex' : x.i = i := by simpa using ex
    have hyd : i ≤ y.i := high_drop hp (by rw [List.drop_eq_getElem_cons hk, ← hy]; exact List.mem_cons_self)
    have hx' := hx
    rw [hsp] at hx'
    rcases List.mem_append.1 hx' with h1 | h1
    · have := low_take h1; omega
    · rcases List.mem_cons.1 h1 with rfl | h1
      · exact ex'
      · obtain ⟨a, ha⟩ := List.getElem?_of_mem h1
        rw [List.getElem?_drop] at ha
        have := up_at hp (show kOf l i < kOf l i + 1 + a by omega) hg ha
        omega
  have hs : thereP l k = (thereP (l.take (kOf l i)) k || (decide (i = k) || thereP (l.drop (kOf l i + 1)) k)) := by
    conv => lhs; rw [hsp]
    unfold thereP
    rw [List.any_append, List.any_cons, hyi]
  by_cases e : i = k
  · subst e
    rw [decide_eq_true rfl, Bool.not_true, Bool.and_false]
    unfold thereP delL
    rw [List.any_eq_false]
    intro x hx
    simp only [decide_eq_true_eq]
    rcases List.mem_append.1 hx with h1 | h1
    · have := low_take h1; omega
    · obtain ⟨a, ha⟩ := List.getElem?_of_mem h1
      rw [List.getElem?_drop] at ha
      have := up_at hp (show kOf l i < kOf l i + 1 + a by omega) hg ha
      omega
  · rw [hs, decide_eq_false e]
    unfold delL thereP
    rw [List.any_append]
    simp

theorem ScOk.step {k : Int} {s : Sc} {q : FoS} {e : Ent} (h : ScOk k s q) (ok : FOk q) (ha : asksP q e = 0) : ScOk k (scStep k s e) (nextP q e) := by
  have hm : mayE e = true := by
    unfold asksP at ha
    by_cases hm : mayE e = true
    · exact hm
    · rw [if_neg hm] at ha; cases ha
  obtain ⟨h1, h2, h3⟩ := h
  refine ⟨?_, ?_, (nextP_w q e).symm⟩
  · show (s.ever || (decide (e.k = 1) && decide (e.i = k))) = _
    rw [h1]
    unfold nextP
    by_cases c1 : e.k = 1
    · rw [if_pos c1, decide_eq_true c1, Bool.true_and]
      show _ = decide (k ∈ q.ever ++ [e.i])
      by_cases hi : k ∈ q.ever
      · simp [hi]
      · by_cases he : e.i = k
        · simp [hi, he]
        · have : ¬ k = e.i := fun h => he h.symm
          simp [hi, he, this]
    · rw [if_neg c1, decide_eq_false c1, Bool.false_and, Bool.or_false]
      split
      · rfl
      · split <;> rfl
  · show (if e.k = 2 ∧ e.i = k then false else (s.there || (decide (e.k = 1) && decide (e.i = k)))) = _
    rw [h2]
    unfold nextP
    by_cases c1 : e.k = 1
    · rw [if_pos c1, if_neg (by omega), decide_eq_true c1, Bool.true_and]
      exact (there_ins q.l (infE e) k).symm
    · rw [if_neg c1, decide_eq_false c1, Bool.false_and, Bool.or_false]
      by_cases c2 : e.k = 2
      · rw [if_pos c2]
        have hth : thereP q.l e.i = true := by
          unfold asksP at ha
          rw [if_pos hm, if_neg (by omega)] at ha
          cases ht : thereP q.l e.i with
          | true => rfl
          | false => rw [if_pos ⟨c2, ht⟩] at ha; cases ha
        show _ = thereP (delL q.l e.i) k
        rw [there_del ok.up hth k]
        by_cases he : e.i = k
        · rw [if_pos ⟨c2, he⟩, decide_eq_true he]; simp
        · rw [if_neg (fun h => he h.2), decide_eq_false he]; simp
      · rw [if_neg c2, if_neg (fun h => c2 h.1)]
        split <;> rfl

theorem scan_ok {k : Int} : ∀ (l : List Ent) {s : Sc} {q : FoS}, ScOk k s q → FOk q → (foldGo q l).1 = 0 → ScOk k (l.foldl (scStep k) s) (foldGo q l).2
  | [], s, q, h, _, _ => h
  | e :: l, s, q, h, ok, h0 => by
    by_cases ha : asksP q e = 0
    · have hg : foldGo q (e :: l) = foldGo (nextP q e) l := by
        conv => lhs; unfold foldGo
        rw [if_pos ha]
      rw [hg] at h0 ⊢
      exact scan_ok l (h.step ok ha) (next_ok ok ha) h0
    · exfalso
      have hg : foldGo q (e :: l) = (asksP q e, q) := by
        conv => lhs; unfold foldGo
        rw [if_neg ha]
      rw [hg] at h0
      exact ha h0

/-- The last view of entries that are taken may be an entry's. -/
theorem w_range : ∀ (l : List Ent) (q : FoS), 0 ≤ q.w → q.w ≤ 1073741824 → (foldGo q l).1 = 0 → 0 ≤ (foldGo q l).2.w ∧ (foldGo q l).2.w ≤ 1073741824
  | [], q, h0, h1, _ => ⟨h0, h1⟩
  | e :: l, q, h0, h1, hz => by
    by_cases ha : asksP q e = 0
    · have hg : foldGo q (e :: l) = foldGo (nextP q e) l := by
        conv => lhs; unfold foldGo
        rw [if_pos ha]
      have hm : mayE e = true := by
        unfold asksP at ha
        by_cases hm : mayE e = true
        · exact hm
        · rw [if_neg hm] at ha; cases ha
      obtain ⟨v0, v1, _⟩ := mayE_range hm
      rw [hg] at hz ⊢
      exact w_range l _ (by rw [nextP_w]; exact v0) (by rw [nextP_w]; exact v1) hz
    · exfalso
      have hg : foldGo q (e :: l) = (asksP q e, q) := by
        conv => lhs; unfold foldGo
        rw [if_neg ha]
      rw [hg] at hz
      exact ha hz
end Go.Proofs.YtlhbidbdmdcdeaaGreatDoor

/-
  LogTorn: what stands whole in a torn row is read. No conditions but those named in each line.
-/
namespace Go.Proofs.YtlhbidbdmdcdeaaGreatDoor
open Go Go.Abs Go.Abs.F
set_option linter.unusedVariables false

theorem torn_cut : ∀ (l : List Ent) (k : Nat), k ≤ (framesB l).length → ∃ j post, (framesB l).take k = framesB (l.take j) ++ post ∧ ((∃ hj : j < l.length, ∃ more, more ≠ [] ∧ post ++ more = wrapB (putB l[j])) ∨ (j = l.length ∧ post = []))
  | [], k, h => ⟨0, [], by simp [framesB], .inr ⟨rfl, rfl⟩⟩
  | e :: r, k, h => by
    by_cases hk : (wrapB (putB e)).length ≤ k
    · obtain ⟨j, post, h1, h2⟩ := torn_cut r (k - (wrapB (putB e)).length) (by simp [framesB] at h; omega)
      refine ⟨j + 1, post, ?_, ?_⟩
      · simp only [framesB, List.take_succ_cons]
        rw [List.take_append, List.take_of_length_le hk, h1, List.append_assoc]
      · rcases h2 with ⟨hj, m, h3, h4⟩ | ⟨h3, h4⟩
        · exact .inl ⟨by simpa using hj, m, h3, by simpa using h4⟩
        · exact .inr ⟨by simp [h3], h4⟩
    · refine ⟨0, (wrapB (putB e)).take k, ?_, .inl ⟨by simp, (wrapB (putB e)).drop k, fun h0 => ?_, by simp [List.take_append_drop]⟩⟩
      · simp only [framesB, List.take_zero, List.nil_append]
        rw [List.take_append_of_le_length (by omega)]
      · have := congrArg List.length h0
        rw [List.length_drop] at this
        simp at this
        omega

theorem wrapB_le (p : Bs) : p.length ≤ (wrapB p).length := by simp [wrapB]; omega

theorem torn_law {l : List Ent} (hm : l.all mayE = true) (hw : ∀ e ∈ l, EWf e) (hl : l.length ≤ 2000) {k : Nat} (hk : k ≤ (framesB l).length) :
    ∃ j, j ≤ l.length ∧ readP ((framesB l).take k) = (l.take j, (framesB (l.take j)).length) ∧ (framesB (l.take j)).length ≤ k ∧ (∀ hj : j < l.length, k < (framesB (l.take j)).length + (wrapB (putB l[j])).length) ∧ (j = l.length → k = (framesB l).length) := by
  obtain ⟨j, post, h1, h2⟩ := torn_cut l k hk
  have hlen : k = (framesB (l.take j)).length + post.length := by
    have := congrArg List.length h1
    rw [List.length_take, List.length_append] at this
    omega
  have hjl : j ≤ l.length := by rcases h2 with ⟨hj, _⟩ | ⟨hj, _⟩ <;> omega
  have hr := readP_frames (bs := (framesB l).take k) (l := l.take j) (post := post) (by rw [List.length_take]; omega) (all_take j hm) (fun e he => hw e (List.mem_of_mem_take he)) h1
  have hno : openB ((framesB l).take k) (framesB (l.take j)).length = none := by
    cases ho : openB ((framesB l).take k) (framesB (l.take j)).length with
    | none => rfl
    | some pe =>
      obtain ⟨p, e⟩ := pe
      exfalso
      obtain ⟨he1, he2, post', hp⟩ := openB_back ho
      rw [h1, List.drop_left] at hp
      rcases h2 with ⟨hj, more, hne, hq⟩ | ⟨_, rfl⟩
      · rw [hp] at hq
        have hme : mayE l[j] = true := by
          rw [List.all_eq_true] at hm
          exact hm _ (List.getElem_mem hj)
        have hql := mayE_len hme
        have hwl := wrapB_len (putB l[j])
        have h3 := congrArg List.length hq
        rw [List.length_append, List.length_append] at h3
        have := wrapB_le p
        have hf := wrapB_free (p := p) (q := putB l[j]) (r := post' ++ more) (r' := []) (by rw [List.append_nil, ← hq, List.append_assoc]) (by omega) (by omega)
        exact hne (List.append_eq_nil_iff.1 hf.2).2
      · have := congrArg List.length hp
        rw [List.length_append] at this
        have h4 : (wrapB p).length = 0 := by simp at this; omega
        simp [wrapB, four] at h4
  rw [readL_none hno] at hr
  refine ⟨j, hjl, hr, by omega, fun hj => ?_, fun hj => ?_⟩
  · rcases h2 with ⟨_, more, hne, hq⟩ | ⟨h, _⟩
    · rw [← hq, List.length_append]
      have : 0 < more.length := List.length_pos_iff.2 hne
      omega
    · omega
  · rcases h2 with ⟨h, _⟩ | ⟨_, hp⟩
    · omega
    · rw [hp] at hlen
      rw [hj, List.take_length] at hlen
      simpa using hlen

section
variable {s t : St} {x y : S} {bs cs : Bs} {i : Nat} {l m : List Ent}

theorem meetP_take (l : List Ent) (k : Nat) : meetP (l.take k) l = (l.take k).length := by
  induction l generalizing k with
  | nil => simp [meetP]
  | cons e r ih => cases k with
    | zero => simp [meetP]
    | succ k =>
      rw [List.take_succ_cons]
      show (if e = e then _ else _) = _
      rw [if_pos rfl, ih]
      rfl

theorem allP_may (hm : l.all mayE = true) (hl : l.length ≤ 2000) : allP l = (framesB l, 0) := by unfold allP; rw [if_pos hm, if_pos hl]

theorem RE_upto (h : RE s x l) {k : Nat} (hk : k ≤ l.length) : ∃ y, aPieceSl 8 (Z x) none (some (I .i64 k)) none = some (Z y) ∧ RE s y (l.take k) ∧ (own y = none ∨ own y = own x) := by
  obtain ⟨y, a, b, c⟩ := Rd.upto h hk
  refine ⟨y, a, ?_, c⟩
  rw [cells_take cE_len] at b
  have : (l.take k).length = k := by rw [List.length_take]; omega
  unfold RE
  rw [this]
  exact b

theorem RB_upto (h : RB s x bs) {k : Nat} (hk : k ≤ bs.length) : ∃ y, aPieceSl 1 (Z x) none (some (I .i64 k)) none = some (Z y) ∧ RB s y (bs.take k) ∧ (own y = none ∨ own y = own x) := by
  obtain ⟨y, a, b, c⟩ := Rd.upto h hk
  refine ⟨y, a, ?_, c⟩
  rw [Nat.mul_one, U_take] at b
  have : (bs.take k).length = k := by rw [List.length_take]; omega
  unfold RB
  rw [this]
  exact b

theorem own_lt {x y : S} {n : Nat} (h : own y = none ∨ own y = own x) (hx : ∀ c, own x = some c → c < n) : ∀ c, own y = some c → c < n := fun c hc => by
  rcases h with h | h
  · rw [h] at hc; cases hc
  · rw [h] at hc; exact hx c hc

/-- The remainder of a number, as the laws make it. -/
theorem mod_run (v : Int) {n : Nat} (h0 : 0 < n) (hn : n < 2 ^ 62) : ∃ k : Nat, k < n ∧ k = rowK v % n ∧ aConv .u64 (I .i64 v) = some (I .u64 (rowK v : Nat)) ∧ aConv .u64 (I .i64 (n : Nat)) = some (I .u64 (n : Nat)) ∧ aBin .rem (I .u64 (rowK v : Nat)) (I .u64 (n : Nat)) = some (I .u64 (k : Nat)) ∧ aConv .i64 (I .u64 (k : Nat)) = some (I .i64 (k : Nat)) :=
  ⟨_, Nat.mod_lt _ h0, rfl, by rw [aConv_int, rowK_eq], by rw [aConv_int, wrap64 _ (by omega)], rem_nat .u64 _ _ h0, by
    have := Nat.mod_lt (rowK v) h0
    rw [aConv_int, wrapi _ (by omega)]⟩

theorem torn_run (d : Nat) (wf : s.wf) {is : List Int} {cut : Int} (hx : Rd 1 s x is.length (I64 is)) (hox : ∀ c, own x = some c → c < s.size) : ∃ t, R (d + 12) 5 [Z x, I .i64 cut] s = some (B true, t) := by
  rw [f5_run]
  unfold f5
  obtain ⟨hm, hw, hl⟩ := rowsE_may is
  have hfl := rowsE_len is
  obtain ⟨o, s1, e1, f1⟩ := rows_run (d + 10) wf hx hox
  generalize rowsE is = l at *
  have ho1 : ∀ c, own o = some c → c < s1.size := fun c hc => (f1.new c hc).2
  obtain ⟨z, s2, e2, f2⟩ := all_run d f1.gr.wf f1.rd ho1 hw (by omega)
  rw [allP_may hm (by omega)] at e2 f2
  have hll := RB.lenB (bs := framesB l) f2.rd
  obtain ⟨k, hk, _, c1, c2, r1, c3⟩ := mod_run cut (n := (framesB l).length + 1) (by omega) (by omega)
  have w1 : IntKind.i64.wrap (((framesB l).length : Int) + 1) = (((framesB l).length + 1 : Nat) : Int) := by rw [wrap_in _ (by omega) (by omega)]; omega
  obtain ⟨y, p1, ry, oy⟩ := RB_upto (bs := framesB l) f2.rd (k := k) (by omega)
  have ho2 : ∀ c, own z = some c → c < s2.size := fun c hc => (f2.new c hc).2
  obtain ⟨u, s3, e3, f3⟩ := read_run' d f2.gr.wf ry (own_lt oy ho2) (by rw [List.length_take]; omega)
  obtain ⟨j, hj, hr, hle, hlt, heq⟩ := torn_law hm hw (by omega) (k := k) (by omega)
  rw [hr] at e3 f3
  simp only [resR] at e3
  have hlj : (l.take j).length = j := by rw [List.length_take]; omega
  have ul : aLenSl (Z u) = some (I .i64 ((l.take j).length : Nat)) := f3.rd.lens
  rw [hlj] at ul
  have g13 : Gr s1 s3 := f2.gr.trans f3.gr
  have re3 : RE s3 o l := (f1.rd : RE s1 o l).gr ho1 g13
  have ol := (f1.rd : RE s1 o l).lens
  have ho3 : ∀ c, own o = some c → c < s3.size := fun c hc => Nat.lt_of_lt_of_le (ho1 c hc) g13.2.1
  have hu3 : ∀ c, own u = some c → c < s3.size := fun c hc => (f3.new c hc).2
  obtain ⟨s4, e4, g4⟩ := front_run (d + 8) f3.gr.wf (f3.rd : RE s3 u (l.take j)) hu3 re3 ho3 (by rw [List.length_take]; omega)
  rw [meetP_take, decide_eq_true rfl] at e4
  obtain ⟨v, p2, rv, ov⟩ := RE_upto (re3.gr ho3 g4) (k := j) hj
  have ho4 : ∀ c, own o = some c → c < s4.size := fun c hc => Nat.lt_of_lt_of_le (ho3 c hc) g4.2.1
  obtain ⟨q, s5, e5, f5⟩ := all_run d g4.wf rv (own_lt ov ho4) (fun e he => hw e (List.mem_of_mem_take he)) (by omega)
  rw [allP_may (all_take j hm) (by omega)] at e5 f5
  simp only [resA] at e2 e5
  have ql := RB.lenB (bs := framesB (l.take j)) f5.rd
  have tl5 := fun st => told10_run (d + 10) st
  have n1 : ¬ (k : Int) < ((framesB (l.take j)).length : Nat) := by omega
  have n2 : ¬ ((l.length : Nat) : Int) < ((j : Nat) : Int) := by omega
  simp only [Nat.add_assoc, Nat.reduceAdd] at e1 e2 e3 e4 e5 tl5
  by_cases hjl : j < l.length
  · have hme : mayE l[j] = true := by
      rw [List.all_eq_true] at hm
      exact hm _ (List.getElem_mem hjl)
    obtain ⟨w, ix, ld⟩ := RE.atE (re3.gr ho3 (g4.trans f5.gr)) (n := ((j : Nat) : Int)) rfl (List.getElem?_eq_getElem hjl)
    obtain ⟨r, s6, e6, g6, f6⟩ := frame_run (d + 1) f5.gr.wf l[j] (hw _ (List.getElem_mem hjl))
    have hf : frameE l[j] = some (wrapB (putB l[j])) := by simp [frameE, hme]
    rw [hf] at e6
    simp only [resF] at e6
    have rl := (f6 _ hf).rd.lens
    have c5 : ((j : Nat) : Int) < ((l.length : Nat) : Int) := by omega
    have hlt' := hlt hjl
    have hwl := frameE_len hf
    have w2 : IntKind.i64.wrap (((framesB (l.take j)).length : Int) + ((wrapB (putB l[j])).length : Nat)) = (((framesB (l.take j)).length + (wrapB (putB l[j])).length : Nat) : Int) := by rw [wrap_in _ (by omega) (by omega)]; omega
    have n3 : (k : Int) < (((framesB (l.take j)).length + (wrapB (putB l[j])).length : Nat) : Int) := by omega
    simp only [Nat.add_assoc, Nat.reduceAdd] at e6
    refine ⟨s6, ?_⟩
    generalize (((framesB (l.take j)).length + (wrapB (putB l[j])).length : Nat) : Int) = FW at *
    generalize (((framesB (l.take j)).length : Nat) : Int) = FJ at *
    generalize (((wrapB (putB l[j])).length : Nat) : Int) = WJ at *
    generalize (((framesB l).length + 1 : Nat) : Int) = F1 at *
    generalize (((framesB l).length : Nat) : Int) = F0 at *
    generalize ((l.length : Nat) : Int) = LL at *
    generalize ((j : Nat) : Int) = JJ at *
    generalize ((k : Nat) : Int) = KK at *
    generalize ((rowK cut : Nat) : Int) = RK at *
    generalize R (d + 11) = r at *
    simp [e1, e2, aExtract, c1, hll, w1, c2, r1, c3, p1, e3, n1, ul, ol, n2, e4, p2, e5, ql, c5, ix, ld, e6, tl5, rl, w2, n3]
  · have hje : j = l.length := by omega
    have hke := heq hje
    have c5 : ¬ ((j : Nat) : Int) < ((l.length : Nat) : Int) := by omega
    have hfj : (framesB (l.take j)).length = (framesB l).length := by rw [hje, List.take_length]
    rw [hfj] at e3 ql n1
    refine ⟨s5, ?_⟩
    generalize (((framesB l).length + 1 : Nat) : Int) = F1 at *
    generalize (((framesB l).length : Nat) : Int) = F0 at *
    generalize ((l.length : Nat) : Int) = LL at *
    generalize ((j : Nat) : Int) = JJ at *
    generalize ((k : Nat) : Int) = KK at *
    generalize ((rowK cut : Nat) : Int) = RK at *
    generalize R (d + 11) = r at *
    simp [e1, e2, aExtract, c1, hll, w1, c2, r1, c3, p1, e3, n1, ul, ol, n2, e4, p2, e5, ql, c5, tl5]
end
end Go.Proofs.YtlhbidbdmdcdeaaGreatDoor

/-
  EntryTwice, run. No conditions but those named in each line.
-/
namespace Go.Proofs.YtlhbidbdmdcdeaaGreatDoor
open Go Go.Abs Go.Abs.F
set_option linter.unusedVariables false
section
variable {s t : St} {x y : S} {l : List Ent}

theorem resFo_ex (r : Int × FoS) (y : S) : ∃ y' p v, resFo r y = .tup [.s y', .agg (cP p), .s (.int .i64 v), .s (.int .i64 r.1)] := by
  unfold resFo
  by_cases h : r.1 = 0
  · rw [if_pos h, h]; exact ⟨_, _, _, rfl⟩
  · rw [if_neg h]; exact ⟨_, _, _, rfl⟩

/-- A place for a policy. -/
theorem polBox (wf : s.wf) (p : Pol) : ∃ s1 s2, aNew s (nCells [.int .i64 0, .int .i64 0, .int .i64 0, .int .i64 0, .int .i64 0, .int .i64 0]) = some (Z (.ptr s.size 0), s1) ∧ aStore 6 (Z (.ptr s.size 0)) (AP p) s1 = some (tt, s2) ∧ Gr s s2 ∧
    s2.get s.size = some (.cells true (cP p)) ∧ s.size < s2.size := by
  have b0 : (s.push (.cells true (cP pol0))).get s.size = some (.cells true (cP pol0)) := St.get_push_same _ _
  exact ⟨s.push (.cells true (cP pol0)), _, rfl, store6 b0 rfl, ⟨St.wf_set (St.wf_push wf _) (by simp) _, by simp, fun c hc => by rw [St.get_set_ne _ _ (by omega), St.get_push_ne _ _ (by omega)]⟩, St.get_set_same _ _ _, by simp⟩

/-- Entries copied into a new slice, and one more. -/
theorem copyE_run (wf : s.wf) (h : RE s x l) (hox : ∀ c, own x = some c → c < s.size) (hl : l.length ≤ 100000) (e : Ent) : ∃ y s1 s2 z s3 t, aNew s (nSlice 0 (aFill [] [])) = some (Z (.sl s.size 0 0 (.known 0)), s1) ∧
    aAppend 8 72 (Z (.sl s.size 0 0 (.known 0))) (Z x) s1 = some (Z y, s2) ∧
    aNew s2 (nSlice 1 (aFill [.int .i64 0, .int .i64 0, .int .i64 0, .int .i64 0, .int .i64 0, .int .i64 0, .int .u32 0, .str []] [(0, 8, AE e)])) = some (Z (.sl s2.size 0 1 (.known 1)), s3) ∧
    aAppend 8 72 (Z y) (Z (.sl s2.size 0 1 (.known 1))) s3 = some (Z z, t) ∧ FE s t z (l ++ [e]) := by
  have f0 := Fr.lit 8 wf (n := 0) (vs := []) rfl
  obtain ⟨y, s2, e1, f1, _⟩ := f0.append (by_ := 72) (by omega) (h.gr hox f0.gr).src (cells_len (e := 8) cE_len l) (by omega)
  simp only [Nat.zero_add, List.nil_append] at f1
  obtain ⟨z, t, s3, e2, e3, f3, _⟩ := FE.lit (e := e) f1 (by omega)
  exact ⟨y, _, s2, z, s3, t, rfl, e1, e2, e3, f3⟩

set_option maxHeartbeats 1000000 in
theorem scan_run (r : CallF) (k : Int) (h : RE s x l) (hl : l.length ≤ 8000) : ∃ sc, sc = l.foldl (scStep k) ⟨false, false, 0⟩ ∧
    loops (f13_l1 r 8192) 8192 [Z x, I .i64 k, B false, B false, I .i64 0, I .i64 0] s = some (.exit 0 [Z x, I .i64 k, B sc.ever, B sc.there, I .i64 sc.view], s) := by
  have ll := h.lens
  obtain ⟨j, τ, lp, rfl, rfl⟩ := loops_inv (f := f13_l1 r 8192)
    (fun q v u => ∃ (n : Nat) (sc : Sc), q + n = l.length ∧ v = [Z x, I .i64 k, B sc.ever, B sc.there, I .i64 sc.view, I .i64 ((n : Nat) : Int)] ∧ u = s ∧ (l.drop n).foldl (scStep k) sc = l.foldl (scStep k) ⟨false, false, 0⟩)
    (fun j u => j = .exit 0 [Z x, I .i64 k, B (l.foldl (scStep k) ⟨false, false, 0⟩).ever, B (l.foldl (scStep k) ⟨false, false, 0⟩).there, I .i64 (l.foldl (scStep k) ⟨false, false, 0⟩).view] ∧ u = s) (by
    rintro q v u ⟨n, sc, hn, rfl, rfl, hsc⟩
    by_cases hnl : n < l.length
    · left
      have hg : l[n]? = some l[n] := List.getElem?_eq_getElem hnl
      obtain ⟨e, he⟩ : ∃ e, e = l[n] := ⟨_, rfl⟩
      rw [← he] at hg
      rw [List.drop_eq_getElem_cons hnl, ← he, List.foldl_cons] at hsc
      obtain ⟨c, p, ix, ld, _⟩ := Rd.at h (i := ((n : Nat) : Int)) rfl hnl
      have l0 := ld 0 (.int .i64 e.k) (by omega) (by rw [cells_get cE_len hg (by omega)]; rfl)
      have l1 := ld 1 (.int .i64 e.v) (by omega) (by rw [cells_get cE_len hg (by omega)]; rfl)
      have l2 := ld 2 (.int .i64 e.i) (by omega) (by rw [cells_get cE_len hg (by omega)]; rfl)
      have fa0 : aFieldAddr 0 (Z (.ptr c p)) = some (Z (.ptr c (p + 0))) := rfl
      have fa1 : aFieldAddr 1 (Z (.ptr c p)) = some (Z (.ptr c (p + 1))) := rfl
      have fa2 : aFieldAddr 2 (Z (.ptr c p)) = some (Z (.ptr c (p + 2))) := rfl
      have c0 : ((n : Nat) : Int) < ((l.length : Nat) : Int) := by omega
      have w1 : IntKind.i64.wrap ((n : Int) + 1) = ((n + 1 : Nat) : Int) := by rw [wrap_in _ (by omega) (by omega)]; omega
      refine ⟨[Z x, I .i64 k, B (scStep k sc e).ever, B (scStep k sc e).there, I .i64 (scStep k sc e).view, I .i64 ((n + 1 : Nat) : Int)], u, q - 1, ?_, by omega, n + 1, scStep k sc e, by omega, rfl, rfl, hsc⟩
      unfold f13_l1
      clear hsc he
      generalize ((n + 1 : Nat) : Int) = N1 at *
      generalize ((n : Nat) : Int) = N0 at *
      generalize ((l.length : Nat) : Int) = LL at *
      generalize p + 0 = p0 at *
      by_cases h1 : e.k = 1
      · by_cases hi : e.i = k
        · simp [ll, c0, ix, fa0, fa1, fa2, l0, l1, l2, h1, hi, w1, scStep]
        · simp [ll, c0, ix, fa0, fa1, fa2, l0, l1, l2, h1, hi, w1, scStep]
      · by_cases h2 : e.k = 2
        · by_cases hi : e.i = k
          · simp [ll, c0, ix, fa0, fa1, fa2, l0, l1, l2, h2, hi, w1, scStep]
          · simp [ll, c0, ix, fa0, fa1, fa2, l0, l1, l2, h2, hi, w1, scStep]
        · simp [ll, c0, ix, fa0, fa1, fa2, l0, l1, l2, h1, h2, w1, scStep]
    · right
      have hnn : n = l.length := by omega
      subst hnn
      rw [List.drop_length] at hsc
      have hsc' : sc = l.foldl (scStep k) ⟨false, false, 0⟩ := hsc
      refine ⟨_, u, ?_, (fun v hv => by cases hv), rfl, rfl⟩
      have c0 : ¬ ((l.length : Nat) : Int) < ((l.length : Nat) : Int) := by omega
      unfold f13_l1
      rw [← hsc']
      simp [ll, c0]) 8192 l.length [Z x, I .i64 k, B false, B false, I .i64 0, I .i64 0] s ⟨0, ⟨false, false, 0⟩, by omega, rfl, rfl, by rw [List.drop_zero]⟩ (by omega)
  exact ⟨_, rfl, lp⟩

/-- What a list that is taken says of one entry more. -/
theorem more_code {l : List Ent} {q : FoS} (h : foldGo fs0 l = (0, q)) (e : Ent) : (foldGo fs0 (l ++ [e])).1 = asksP q e := by
  rw [foldGo_append, h, if_pos rfl, foldGo_one]
  split
  · rename_i h; exact h.symm
  · rfl

set_option maxHeartbeats 2000000 in
theorem twice_run (d : Nat) (wf : s.wf) {is : List Int} {id : Int} (hx : Rd 1 s x is.length (I64 is)) (hox : ∀ c, own x = some c → c < s.size) : ∃ t, R (d + 12) 13 [Z x, I .i64 id] s = some (B true, t) := by
  rw [f13_run]
  unfold f13
  obtain ⟨hm, hw, hl⟩ := rowsE_may is
  have htk := rows_taken is
  obtain ⟨o, s1, e1, f1⟩ := rows_run (d + 10) wf hx hox
  generalize rowsE is = l at *
  have ho1 : ∀ c, own o = some c → c < s1.size := fun c hc => (f1.new c hc).2
  obtain ⟨k, hk, _, c1, _, r1, c3⟩ := mod_run id (n := 40) (by decide) (by decide)
  have r1' : aBin .rem (I .u64 (rowK id : Nat)) (I .u64 40) = some (I .u64 ((k : Nat) : Int)) := r1
  have a1 : aBin .add (I .i64 1) (I .i64 ((k : Nat) : Int)) = some (I .i64 ((k + 1 : Nat) : Int)) := by
    rw [add_int, wrap_in _ (by omega) (by omega), show (1 : Int) + ((k : Nat) : Int) = ((k + 1 : Nat) : Int) by omega]
  obtain ⟨sc, hsc, lp⟩ := scan_run (R (d + 11)) (((k + 1 : Nat) : Int)) f1.rd (by omega)
  obtain ⟨q, hq⟩ : ∃ q, foldGo fs0 l = (0, q) := ⟨(foldGo fs0 l).2, by rw [← htk]⟩
  have hq2 : (foldGo fs0 l).2 = q := by rw [hq]
  have hS : ScOk (((k + 1 : Nat) : Int)) sc q := by
    have := scan_ok (k := ((k + 1 : Nat) : Int)) l (s := ⟨false, false, 0⟩) (q := fs0) ⟨rfl, rfl, rfl⟩ fs0_ok htk
    rw [hq2, ← hsc] at this
    exact this
  have hwr := w_range l fs0 (by decide) (by decide) htk
  rw [hq2] at hwr
  obtain ⟨s_ever, s_there, s_view⟩ := hS
  -- a segment more
  obtain ⟨ea, hea⟩ : ∃ ea : Ent, ea = ⟨1, sc.view, ((k + 1 : Nat) : Int), 0, 0, 1, 0, []⟩ := ⟨_, rfl⟩
  have ma : mayE ea = true := by
    rw [hea]
    unfold mayE
    rw [if_neg (by show ¬ (sc.view < 0 ∨ 1073741824 < sc.view); omega), if_pos rfl]
    have h1 : idOk ((k + 1 : Nat) : Int) = true := by
      unfold idOk
      rw [decide_eq_true (by omega), decide_eq_true (by omega)]; rfl
    show (decide (([] : Bs) = []) && idOk ((k + 1 : Nat) : Int) && decide ((0 : Int) ≤ 0) && decide ((0 : Int) < 4) && decide ((0 : Int) ≤ 0) && decide ((0 : Int) < 1) && decide ((1 : Int) ≤ 1099511627776)) = true
    rw [h1]; decide
  have ca : asksP q ea = if sc.ever = true then 7 else 0 := by
    unfold asksP
    rw [if_pos ma, s_ever]
    by_cases hi : ((k + 1 : Nat) : Int) ∈ q.ever
    · rw [if_pos ⟨by rw [hea], by rw [hea]; exact hi⟩, decide_eq_true hi, if_pos rfl]
    · rw [if_neg (fun h => hi (by rw [hea] at h; exact h.2)), if_neg (by rw [hea]; simp), if_neg (by rw [hea]; show ¬ sc.view < q.w; omega), decide_eq_false hi, if_neg (by decide)]
  obtain ⟨y1, u1, u2, z1, u3, u4, n1, p1, n2, p2, F4⟩ := copyE_run f1.gr.wf f1.rd ho1 (by omega) ea
  have ag1 : asAggT (aFill [.int .i64 0, .int .i64 0, .int .i64 0, .int .i64 0, .int .i64 0, .int .i64 0, .int .u32 0, .str []] [(0, 1, (I .i64 1)), (1, 1, I .i64 sc.view), (2, 1, I .i64 ((k + 1 : Nat) : Int)), (5, 1, (I .i64 1))]) = some (AE ea) := by rw [hea]; rfl
  obtain ⟨w1, u5, e5, g5, _⟩ := fold_run d F4.gr.wf F4.rd (fun c hc => (F4.new c hc).2) (by simp; omega)
  obtain ⟨y1', pp1, v1, hr1⟩ := resFo_ex (foldGo fs0 (l ++ [ea])) w1
  rw [more_code hq, ca] at hr1
  rw [hr1] at e5
  obtain ⟨u6, u7, n6, st7, g7, _, _⟩ := polBox g5.wf pp1
  -- one that goes
  obtain ⟨eb, heb⟩ : ∃ eb : Ent, eb = ⟨2, sc.view, ((k + 1 : Nat) : Int), 0, 0, 0, 0, []⟩ := ⟨_, rfl⟩
  have mb : mayE eb = true := by
    rw [heb]
    unfold mayE
    rw [if_neg (by show ¬ (sc.view < 0 ∨ 1073741824 < sc.view); omega), if_neg (show ¬ ((2 : Int) = 1) by decide), if_pos rfl]
    have h1 : idOk ((k + 1 : Nat) : Int) = true := by
      unfold idOk
      rw [decide_eq_true (by omega), decide_eq_true (by omega)]; rfl
    show (idOk ((k + 1 : Nat) : Int) && decide ((⟨2, sc.view, ((k + 1 : Nat) : Int), 0, 0, 0, 0, []⟩ : Ent) = ⟨2, sc.view, ((k + 1 : Nat) : Int), 0, 0, 0, 0, []⟩)) = true
    rw [h1, decide_eq_true rfl]; rfl
  have cb : asksP q eb = if sc.there = true then 0 else 9 := by
    unfold asksP
    rw [if_pos mb, if_neg (by rw [heb]; simp), s_there]
    have hib : eb.i = ((k + 1 : Nat) : Int) := by rw [heb]
    have hkb : eb.k = 2 := by rw [heb]
    have hvb : eb.v = sc.view := by rw [heb]
    rw [hib]
    cases ht : thereP q.l ((k + 1 : Nat) : Int) with
    | true => rw [if_neg (by simp), if_neg (by omega), if_pos rfl]
    | false => rw [if_pos ⟨hkb, rfl⟩, if_neg (by decide)]
  have g17 := F4.gr.trans (g5.trans g7)
  have ho7 : ∀ c, own o = some c → c < u7.size := fun c hc => Nat.lt_of_lt_of_le (ho1 c hc) g17.2.1
  obtain ⟨y2, u8, u9, z2, u10, u11, n8, p8, n9, p9, F11⟩ := copyE_run g7.wf (f1.rd.gr ho1 g17) ho7 (by omega) eb
  have ag2 : asAggT (aFill [.int .i64 0, .int .i64 0, .int .i64 0, .int .i64 0, .int .i64 0, .int .i64 0, .int .u32 0, .str []] [(0, 1, (I .i64 2)), (1, 1, I .i64 sc.view), (2, 1, I .i64 ((k + 1 : Nat) : Int))]) = some (AE eb) := by rw [heb]; rfl
  obtain ⟨w2, u12, e12, g12, _⟩ := fold_run d F11.gr.wf F11.rd (fun c hc => (F11.new c hc).2) (by simp; omega)
  obtain ⟨y2', pp2, v2, hr2⟩ := resFo_ex (foldGo fs0 (l ++ [eb])) w2
  rw [more_code hq, cb] at hr2
  rw [hr2] at e12
  obtain ⟨u13, u14, n13, st14, g14, _, _⟩ := polBox g12.wf pp2
  have tl := told9_run (d + 10) u14
  simp only [Nat.add_assoc, Nat.reduceAdd] at e1 tl
  refine ⟨u14, ?_⟩
  clear hm hw htk hsc hq hq2 hr1 hr2 ca cb ma mb s_ever s_there s_view hwr hea heb
  generalize R (d + 11) = r at *
  generalize ((k + 1 : Nat) : Int) = K1 at *
  generalize ((k : Nat) : Int) = K at *
  generalize s1.size = z1s at *
  generalize u2.size = z2s at *
  generalize u5.size = z5s at *
  generalize u7.size = z7s at *
  generalize u9.size = z9s at *
  generalize u12.size = z12s at *
  obtain ⟨sce, sct, scv⟩ := sc
  cases sce with
  | true =>
    cases sct with
    | true => simp at e5 e12 lp ag1 ag2; simp [e1, c1, r1', c3, a1, lp, n1, p1, ag1, n2, p2, e5, aExtract, n6, st7, n8, p8, ag2, n9, p9, e12, n13, st14, gtt, tl]
    | false => simp at e5 e12 lp ag1 ag2; simp [e1, c1, r1', c3, a1, lp, n1, p1, ag1, n2, p2, e5, aExtract, n6, st7, n8, p8, ag2, n9, p9, e12, n13, st14, gtt, tl]
  | false =>
    cases sct with
    | true => simp at e5 e12 lp ag1 ag2; simp [e1, c1, r1', c3, a1, lp, n1, p1, ag1, n2, p2, e5, aExtract, n6, st7, n8, p8, ag2, n9, p9, e12, n13, st14, gtt, tl]
    | false => simp at e5 e12 lp ag1 ag2; simp [e1, c1, r1', c3, a1, lp, n1, p1, ag1, n2, p2, e5, aExtract, n6, st7, n8, p8, ag2, n9, p9, e12, n13, st14, gtt, tl]
end
end Go.Proofs.YtlhbidbdmdcdeaaGreatDoor

/-
  Functions of the library in this program, as the kit lays them. No conditions.
-/
namespace Go.Proofs
open Go.Shelf
def Tryz.lays156_ren : Go.Shelf.Ren := ⟨fun | 156 => 79 | 165 => 93 | 166 => 94 | 169 => 95 | 240 => 106 | 241 => 107 | 276 => 118 | 277 => 119 | n => n, fun | 31 => 49 | 9 => 9 | 3 => 3 | 4 => 4 | 0 => 0 | 20 => 20 | 72 => 128 | 76 => 132 | 70 => 126 | 37 => 27 | 75 => 131 | 127 => 142 | 164 => 152 | 5 => 5 | 80 => 134 | n => n, fun | n => n⟩
theorem Tryz.lays156 : Go.Proofs.Lays.n156 Tryz.prog Tryz.lays156_ren := {
  mixed := by kernel_rfl
  f156 := Tryz.func79.trans (congrArg some (by kernel_rfl))
  f165 := Tryz.func93.trans (congrArg some (by kernel_rfl))
  f166 := Tryz.func94.trans (congrArg some (by kernel_rfl))
  f169 := Tryz.func95.trans (congrArg some (by kernel_rfl))
  f240 := Tryz.func106.trans (congrArg some (by kernel_rfl))
  f241 := Tryz.func107.trans (congrArg some (by kernel_rfl))
  f276 := Tryz.func118.trans (congrArg some (by kernel_rfl))
  f277 := Tryz.func119.trans (congrArg some (by kernel_rfl))
  t0 := Tryz.underlying0
  a0 := Tryz.isAgg0
  z0 := Tryz.sizeOf0
  v0 := Tryz.zeroValue0
  t3 := Tryz.underlying3
  a3 := Tryz.isAgg3
  z3 := Tryz.sizeOf3
  v3 := Tryz.zeroValue3
  t4 := Tryz.underlying4
  a4 := Tryz.isAgg4
  z4 := Tryz.sizeOf4
  v4 := Tryz.zeroValue4
  t9 := Tryz.underlying9
  a9 := Tryz.isAgg9
  z9 := Tryz.sizeOf9
  v9 := Tryz.zeroValue9
  t20 := Tryz.underlying20
  a20 := Tryz.isAgg20
  z20 := Tryz.sizeOf20
  v20 := Tryz.zeroValue20
  t31 := Tryz.underlying49
  a31 := Tryz.isAgg49
  z31 := Tryz.sizeOf49
  v31 := Tryz.zeroValue49
  t37 := Tryz.underlying27
  a37 := Tryz.isAgg27
  z37 := Tryz.sizeOf27
  v37 := Tryz.zeroValue27
  t70 := Tryz.underlying126
  a70 := Tryz.isAgg126
  z70 := Tryz.sizeOf126
  v70 := Tryz.zeroValue126
  t72 := Tryz.underlying128
  a72 := Tryz.isAgg128
  z72 := Tryz.sizeOf128
  v72 := Tryz.zeroValue128
  t75 := Tryz.underlying131
  a75 := Tryz.isAgg131
  z75 := Tryz.sizeOf131
  v75 := Tryz.zeroValue131
  t76 := Tryz.underlying132
  a76 := Tryz.isAgg132
  z76 := Tryz.sizeOf132
  v76 := Tryz.zeroValue132
  t127 := Tryz.underlying142
  a127 := Tryz.isAgg142
  z127 := Tryz.sizeOf142
  v127 := Tryz.zeroValue142
  t164 := Tryz.underlying152
  a164 := Tryz.isAgg152
  z164 := Tryz.sizeOf152
  v164 := Tryz.zeroValue152 }
theorem Tryz.Builder_Extra_156 : Builder.Extra Tryz.prog Tryz.lays156_ren := {
  sizeBuilder := by kernel_rfl
  liesBuilder := by kernel_rfl
  t5 := Tryz.underlying5
  a5 := Tryz.isAgg5
  z5 := Tryz.sizeOf5
  v5 := Tryz.zeroValue5
  infoByte := by kernel_rfl
  cellsByte := by kernel_rfl
  sizeByte := by kernel_rfl
  neB5 := by decide }
open Go.RowKit in
/-- No element: the empty string; the world is as it was. (Whatever the slice's address and capacity: a nil slice too.) (LAID: no walk: one application.) -/
theorem Tryz.strings_Join_none (a : Option Addr) (c : Nat) (sep : ByteArray) (w : World) :
    Calls Tryz.prog 79 #[.slice a 0 c, .string sep] w fun e w' => e = .returned (.string ⟨#[]⟩) ∧ w' = w := Any.strings_Join_none Tryz.lays156 Tryz.Builder_Extra_156 a c sep w
open Go.RowKit in
/-- strings.Join: "Join concatenates the elements of its first argument to create a single string. The separator string sep is placed between elements in the resulting string.": HOWEVER MANY ELEMENTS. Below the heap's end the world is as it was. (LAID: no walk: one application.) -/
theorem Tryz.strings_Join (bk o c : Nat) (xs : List ByteArray) (sep : ByteArray) (w : World) (hcells : ∀ (j : Nat) x, xs[j]? = some x → w.cell? ⟨bk, o + j, none⟩ = some (.string x)) (hbk : bk < w.heap.size) (hN : xs.length ≤ 140737488355328) (hcap : xs.length ≤ c) (hlen : (Lib.join (xs.map (·.data.toList)) sep.data.toList).length ≤ 140737488355328) :
    Calls Tryz.prog 79 #[.slice (some ⟨bk, o, none⟩) xs.length c, .string sep] w fun e w' => e = .returned (.string ⟨(Lib.join (xs.map (·.data.toList)) sep.data.toList).toArray⟩) ∧ Below w.heap.size w w' := Any.strings_Join Tryz.lays156 Tryz.Builder_Extra_156 bk o c xs sep w hcells hbk hN hcap hlen
def Tryz.lays219_ren : Go.Shelf.Ren := ⟨fun | 219 => 105 | 217 => 114 | 225 => 115 | 224 => 116 | 267 => 117 | 266 => 130 | 314 => 131 | n => n, fun | 9 => 9 | 3 => 3 | 4 => 4 | 5 => 5 | 46 => 22 | 146 => 163 | 51 => 23 | n => n, fun | 1 => 0 | n => n⟩
theorem Tryz.lays219 : Go.Proofs.Lays.n219 Tryz.prog Tryz.lays219_ren := {
  mixed := by kernel_rfl
  f217 := Tryz.func114.trans (congrArg some (by kernel_rfl))
  f219 := Tryz.func105.trans (congrArg some (by kernel_rfl))
  f224 := Tryz.func116.trans (congrArg some (by kernel_rfl))
  f225 := Tryz.func115.trans (congrArg some (by kernel_rfl))
  f266 := Tryz.func130.trans (congrArg some (by kernel_rfl))
  f267 := Tryz.func117.trans (congrArg some (by kernel_rfl))
  f314 := Tryz.func131.trans (congrArg some (by kernel_rfl))
  t3 := Tryz.underlying3
  a3 := Tryz.isAgg3
  z3 := Tryz.sizeOf3
  v3 := Tryz.zeroValue3
  t4 := Tryz.underlying4
  a4 := Tryz.isAgg4
  z4 := Tryz.sizeOf4
  v4 := Tryz.zeroValue4
  t5 := Tryz.underlying5
  a5 := Tryz.isAgg5
  z5 := Tryz.sizeOf5
  v5 := Tryz.zeroValue5
  t9 := Tryz.underlying9
  a9 := Tryz.isAgg9
  z9 := Tryz.sizeOf9
  v9 := Tryz.zeroValue9
  t46 := Tryz.underlying22
  a46 := Tryz.isAgg22
  z46 := Tryz.sizeOf22
  v46 := Tryz.zeroValue22
  t51 := Tryz.underlying23
  a51 := Tryz.isAgg23
  z51 := Tryz.sizeOf23
  v51 := Tryz.zeroValue23
  t146 := Tryz.underlying163
  a146 := Tryz.isAgg163
  z146 := Tryz.sizeOf163
  v146 := Tryz.zeroValue163
  g1 := by kernel_rfl }
open Go.RowKit Go.Lib in
/-- internal/stringslite.Index (what strings.Index calls) AT A substr OF ONE BYTE c: IT RETURNS 'Lib.indexByte s c'; the world is as it was. (LAID: no walk: one application.) -/
theorem Tryz.stringslite_Index_one (s : ByteArray) (c : UInt8) (w : World) :
    Calls Tryz.prog 105 #[.string s, .string ⟨#[c]⟩] w fun e w' => e = .returned (.int .i64 (Lib.indexByte s.data.toList c)) ∧ w' = w := Any.stringslite_Index_one Tryz.lays219 s c w
def Tryz.lays143_ren : Go.Shelf.Ren := ⟨fun | 143 => 104 | 219 => 105 | 217 => 114 | 225 => 115 | 224 => 116 | 267 => 117 | 266 => 130 | 314 => 131 | n => n, fun | 9 => 9 | 3 => 3 | 4 => 4 | 5 => 5 | 46 => 22 | 146 => 163 | 51 => 23 | n => n, fun | 1 => 0 | n => n⟩
theorem Tryz.lays143 : Go.Proofs.Lays.n143 Tryz.prog Tryz.lays143_ren := {
  mixed := by kernel_rfl
  f143 := Tryz.func104.trans (congrArg some (by kernel_rfl))
  f217 := Tryz.func114.trans (congrArg some (by kernel_rfl))
  f219 := Tryz.func105.trans (congrArg some (by kernel_rfl))
  f224 := Tryz.func116.trans (congrArg some (by kernel_rfl))
  f225 := Tryz.func115.trans (congrArg some (by kernel_rfl))
  f266 := Tryz.func130.trans (congrArg some (by kernel_rfl))
  f267 := Tryz.func117.trans (congrArg some (by kernel_rfl))
  f314 := Tryz.func131.trans (congrArg some (by kernel_rfl))
  t3 := Tryz.underlying3
  a3 := Tryz.isAgg3
  z3 := Tryz.sizeOf3
  v3 := Tryz.zeroValue3
  t4 := Tryz.underlying4
  a4 := Tryz.isAgg4
  z4 := Tryz.sizeOf4
  v4 := Tryz.zeroValue4
  t5 := Tryz.underlying5
  a5 := Tryz.isAgg5
  z5 := Tryz.sizeOf5
  v5 := Tryz.zeroValue5
  t9 := Tryz.underlying9
  a9 := Tryz.isAgg9
  z9 := Tryz.sizeOf9
  v9 := Tryz.zeroValue9
  t46 := Tryz.underlying22
  a46 := Tryz.isAgg22
  z46 := Tryz.sizeOf22
  v46 := Tryz.zeroValue22
  t51 := Tryz.underlying23
  a51 := Tryz.isAgg23
  z51 := Tryz.sizeOf23
  v51 := Tryz.zeroValue23
  t146 := Tryz.underlying163
  a146 := Tryz.isAgg163
  z146 := Tryz.sizeOf163
  v146 := Tryz.zeroValue163
  g1 := by kernel_rfl }
open Go.RowKit Go.Lib in
/-- strings.Index: "Index returns the index of the first instance of substr in s, or -1 if substr is not present in s.": AT A substr OF ONE BYTE c: IT RETURNS 'Lib.indexByte s c'; the world is as it was. (LAID: no walk: one application.) -/
theorem Tryz.strings_Index_one (s : ByteArray) (c : UInt8) (w : World) :
    Calls Tryz.prog 104 #[.string s, .string ⟨#[c]⟩] w fun e w' => e = .returned (.int .i64 (Lib.indexByte s.data.toList c)) ∧ w' = w := Any.strings_Index_one Tryz.lays143 s c w
def Tryz.lays138_ren : Go.Shelf.Ren := ⟨fun | 138 => 103 | 195 => 111 | 218 => 113 | 143 => 104 | 219 => 105 | 217 => 114 | 225 => 115 | 224 => 116 | 267 => 117 | 266 => 130 | 314 => 131 | n => n, fun | 9 => 9 | 3 => 3 | 4 => 4 | 5 => 5 | 0 => 0 | 46 => 22 | 146 => 163 | 51 => 23 | n => n, fun | 1 => 0 | n => n⟩
theorem Tryz.lays138 : Go.Proofs.Lays.n138 Tryz.prog Tryz.lays138_ren := {
  mixed := by kernel_rfl
  f138 := Tryz.func103.trans (congrArg some (by kernel_rfl))
  f143 := Tryz.func104.trans (congrArg some (by kernel_rfl))
  f195 := Tryz.func111.trans (congrArg some (by kernel_rfl))
  f217 := Tryz.func114.trans (congrArg some (by kernel_rfl))
  f218 := Tryz.func113.trans (congrArg some (by kernel_rfl))
  f219 := Tryz.func105.trans (congrArg some (by kernel_rfl))
  f224 := Tryz.func116.trans (congrArg some (by kernel_rfl))
  f225 := Tryz.func115.trans (congrArg some (by kernel_rfl))
  f266 := Tryz.func130.trans (congrArg some (by kernel_rfl))
  f267 := Tryz.func117.trans (congrArg some (by kernel_rfl))
  f314 := Tryz.func131.trans (congrArg some (by kernel_rfl))
  t0 := Tryz.underlying0
  a0 := Tryz.isAgg0
  z0 := Tryz.sizeOf0
  v0 := Tryz.zeroValue0
  t3 := Tryz.underlying3
  a3 := Tryz.isAgg3
  z3 := Tryz.sizeOf3
  v3 := Tryz.zeroValue3
  t4 := Tryz.underlying4
  a4 := Tryz.isAgg4
  z4 := Tryz.sizeOf4
  v4 := Tryz.zeroValue4
  t5 := Tryz.underlying5
  a5 := Tryz.isAgg5
  z5 := Tryz.sizeOf5
  v5 := Tryz.zeroValue5
  t9 := Tryz.underlying9
  a9 := Tryz.isAgg9
  z9 := Tryz.sizeOf9
  v9 := Tryz.zeroValue9
  t46 := Tryz.underlying22
  a46 := Tryz.isAgg22
  z46 := Tryz.sizeOf22
  v46 := Tryz.zeroValue22
  t51 := Tryz.underlying23
  a51 := Tryz.isAgg23
  z51 := Tryz.sizeOf23
  v51 := Tryz.zeroValue23
  t146 := Tryz.underlying163
  a146 := Tryz.isAgg163
  z146 := Tryz.sizeOf163
  v146 := Tryz.zeroValue163
  g1 := by kernel_rfl }
open Go.RowKit Go.Lib in
/-- strings.Count AT A substr OF ONE BYTE ('hp'): "Count counts the number of non-overlapping instances of substr in s.": IT RETURNS 'Lib.countByte s (that byte)'; the world is as it was. ✋ NO CONTRACT HERE YET at an empty substr (utf8.RuneCountInString) or at a longer one (a loop over strings.Index). (LAID: no walk: one application.) -/
theorem Tryz.strings_Count_one (s : ByteArray) (c : UInt8) (w : World) :
    Calls Tryz.prog 103 #[.string s, .string ⟨#[c]⟩] w fun e w' => e = .returned (.int .i64 (Lib.countByte s.data.toList c)) ∧ w' = w := Any.strings_Count_one Tryz.lays138 s c w
end Go.Proofs

/-
  What our runs ask first is what the program does. No conditions.
-/
namespace Go.Proofs.YtlhbidbdmdcdeaaGreatDoor
open Go Go.Abs Go.Abs.F
set_option linter.unusedVariables false

theorem prim1_sound : CallSound Tryz.prog prim1 := by
  refine orP_sound (orP_sound (ixP_sound ?_ ?_) (joinP_sound ?_ ?_)) (pureP_sound (runQ_sound noPrim_sound 64 8) _)
  · intro f hf s c w
    have : f = 104 ∨ f = 105 := by simpa [ixs] using hf
    rcases this with rfl | rfl
    · exact Tryz.strings_Index_one s c w
    · exact Tryz.stringslite_Index_one s c w
  · exact fun s c w => Tryz.strings_Count_one s c w
  · exact fun a c sep w => Tryz.strings_Join_none a c sep w
  · exact fun bk o c xs sep w h1 h2 h3 h4 h5 => Tryz.strings_Join bk o c xs sep w h1 h2 h3 h4 h5

theorem prim3_sound : CallSound Tryz.prog prim3 := orP_sound (orP_sound (bigP_sound _ _) (orP_sound del_sound ins_sound)) prim1_sound
theorem prim_sound : CallSound Tryz.prog prim := orP_sound (toldP_sound (runQ_sound prim3_sound 64 16) told10_all) (orP_sound (toldP_sound (runQ_sound prim3_sound 64 16) told9_all) prim3_sound)
end Go.Proofs.YtlhbidbdmdcdeaaGreatDoor
