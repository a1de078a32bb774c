/-
  LogMore: what is put behind is read behind; what is broken ends the reading. No conditions but those named in each line.
-/
import Derived.Test.YtlhbidbdmdcdeaaGreatDoorMeets
namespace Go.Proofs.YtlhbidbdmdcdeaaGreatDoor
open Go Go.Abs Go.Abs.F
set_option linter.unusedVariables false

theorem readL_on {bs : Bs} : ∀ (f at_ : Nat) (acc : List Ent), ∃ m to, readL bs f at_ acc = (acc ++ m, to) ∧ at_ ≤ to
  | 0, at_, acc => ⟨[], at_, by simp [readL], Nat.le_refl _⟩
  | f + 1, at_, acc => by
    unfold readL
    cases ho : openB bs at_ with
    | none => exact ⟨[], at_, by simp, Nat.le_refl _⟩
    | some pe =>
      obtain ⟨p, e⟩ := pe
      have he := (openB_back ho).1
      simp only
      cases hg : getE p with
      | none => exact ⟨[], at_, by simp, Nat.le_refl _⟩
      | some en =>
        obtain ⟨m, to, h1, h2⟩ := readL_on (bs := bs) f e (acc ++ [en])
        exact ⟨en :: m, to, by simp only; rw [h1, List.append_assoc]; rfl, by omega⟩

theorem vput_zero {n : Nat} {r : Bs} (h : vput n = 0 :: r) : n = 0 := by
  unfold vput putN at h
  split at h
  · have := congrArg (fun l : Bs => (l.headD 1).toNat) h
    simp only [List.headD_cons] at this
    rw [byte_nat] at this
    simp at this
    omega
  · have := congrArg (fun l : Bs => (l.headD 1).toNat) h
    simp only [List.headD_cons] at this
    rw [byte_nat] at this
    simp at this
    omega

theorem vput_ne (n : Nat) : vput n ≠ [] := by
  unfold vput putN
  split <;> simp

/-- Where a zero stands no frame is read. -/
theorem readL_zero {bs q : Bs} {f at_ : Nat} {acc : List Ent} (h : bs.drop at_ = 0 :: q) : readL bs f at_ acc = (acc, at_) := by
  cases f with
  | zero => rfl
  | succ f =>
    unfold readL
    cases ho : openB bs at_ with
    | none => rfl
    | some pe =>
      obtain ⟨p, e⟩ := pe
      obtain ⟨_, _, post, hp⟩ := openB_back ho
      rw [h] at hp
      have : p.length = 0 := by
        cases hv : vput p.length with
        | nil => exact absurd hv (vput_ne _)
        | cons c r =>
          have h1 : wrapB p = c :: (r ++ four (sumB 1 (vput p.length ++ p)) ++ p) := by
            rw [wrapB, hv]; simp
          rw [h1] at hp
          simp at hp
          rw [← hp.1] at hv
          exact vput_zero hv
      obtain rfl := List.eq_nil_of_length_eq_zero this
      rfl

theorem more_two {x y : List Ent} (hx : x.all mayE = true) (hy : y.all mayE = true) (wx : ∀ e ∈ x, EWf e) (wy : ∀ e ∈ y, EWf e) (hl : x.length + y.length ≤ 2000) :
    readP (framesB x ++ framesB y) = (x ++ y, (framesB x).length + (framesB y).length) := by
  have h := readP_frames (bs := framesB x ++ framesB y) (l := x ++ y) (post := []) (by simpa using hl) (by simp only [List.all_append, hx, hy]; rfl) (fun e he => by
    rcases List.mem_append.1 he with h | h
    · exact wx e h
    · exact wy e h) (by rw [framesB_append, List.append_nil])
  rw [readL_none (openB_end (by rw [framesB_append]; exact Nat.le_refl _)), framesB_append, List.length_append] at h
  exact h

theorem more_zero {x : List Ent} {q : Bs} (hx : x.all mayE = true) (wx : ∀ e ∈ x, EWf e) (hl : x.length ≤ 2000) : readP (framesB x ++ 0 :: q) = (x, (framesB x).length) := by
  rw [readP_frames (l := x) (post := 0 :: q) hl hx wx rfl, readL_zero (q := q) (by rw [List.drop_left])]

theorem more_any {x : List Ent} {q : Bs} (hx : x.all mayE = true) (wx : ∀ e ∈ x, EWf e) (hl : x.length ≤ 2000) : ∃ m to, readP (framesB x ++ q) = (x ++ m, to) ∧ (framesB x).length ≤ to := by
  rw [readP_frames (l := x) (post := q) hl hx wx rfl]
  exact readL_on _ _ _

theorem meetP_append (l m : List Ent) : meetP l (l ++ m) = l.length := by
  have := meetP_take (l ++ m) l.length
  rwa [List.take_left] at this

theorem readP_len (bs : Bs) : (readP bs).1.length ≤ 2000 := by
  suffices ∀ f at_ acc, (readL bs f at_ acc).1.length ≤ acc.length + f from by have := this 2000 0 []; rw [List.length_nil, Nat.zero_add] at this; exact this
  intro f
  induction f with
  | zero => intro at_ acc; exact Nat.le_refl _
  | succ f ih =>
    intro at_ acc
    unfold readL
    split
    · simp
    · split
      · simp
      · have := ih ‹Nat› (acc ++ [‹Ent›])
        simp at this
        omega

section
variable {s t : St} {x y : S} {l m : List Ent} {bs : Bs}

theorem more_run' (d : Nat) (wf : s.wf) {z : S} {is js : List Int} (hx : Rd 1 s x is.length (I64 is)) (hox : ∀ c, own x = some c → c < s.size) (hy : Rd 1 s y js.length (I64 js)) (hoy : ∀ c, own y = some c → c < s.size)
    (hz : RB s z bs) (hoz : ∀ c, own z = some c → c < s.size) : ∃ t, R (d + 12) 8 [Z x, Z y, Z z] s = some (B true, t) := by
  rw [f8_run]
  unfold f8
  have tl5 := fun st => told10_run (d + 10) st
  have lz := hz.lenB
  by_cases hb : 20 < bs.length
  · have c0 : (20 : Int) < ((bs.length : Nat) : Int) := by omega
    refine ⟨s, ?_⟩
    simp only [Nat.add_assoc, Nat.reduceAdd] at tl5
    generalize ((bs.length : Nat) : Int) = BL at *
    generalize R (d + 11) = r at *
    simp [lz, c0, tl5]
  · have c0 : ¬ (20 : Int) < ((bs.length : Nat) : Int) := by omega
    obtain ⟨al, wl, hl⟩ := rowsE_may is
    obtain ⟨am, wm, hm⟩ := rowsE_may js
    have fl := rowsE_len is
    have fm := rowsE_len js
    obtain ⟨a, s1, e1, f1⟩ := rows_run (d + 10) wf hx hox
    obtain ⟨b, s2, e2, f2⟩ := rows_run (d + 10) f1.gr.wf (hy.gr hoy f1.gr) (fun c hc => Nat.lt_of_lt_of_le (hoy c hc) f1.gr.2.1)
    generalize rowsE is = l at *
    generalize rowsE js = m at *
    have oa : ∀ c, own a = some c → c < s2.size := fun c hc => Nat.lt_of_lt_of_le (f1.new c hc).2 f2.gr.2.1
    have ob : ∀ c, own b = some c → c < s2.size := fun c hc => (f2.new c hc).2
    have ra : RE s2 a l := Rd.gr f1.rd (fun c hc => (f1.new c hc).2) f2.gr
    have rb : RE s2 b m := f2.rd
    have la := ra.lens
    have lb := rb.lens
    have up : ∀ {x : S} {v u : St}, Gr v u → (∀ c, own x = some c → c < v.size) → ∀ c, own x = some c → c < u.size := fun g h c hc => Nat.lt_of_lt_of_le (h c hc) g.2.1
    obtain ⟨p, s3, e3, f3⟩ := all_run d f2.gr.wf ra oa wl (by omega)
    rw [allP_may al (by omega)] at e3 f3
    obtain ⟨q, s4, e4, f4⟩ := all_run d f3.gr.wf (rb.gr ob f3.gr) (up f3.gr ob) wm (by omega)
    rw [allP_may am (by omega)] at e4 f4
    simp only [resA] at e3 e4
    have op : ∀ c, own p = some c → c < s4.size := fun c hc => Nat.lt_of_lt_of_le (f3.new c hc).2 f4.gr.2.1
    have oq : ∀ c, own q = some c → c < s4.size := fun c hc => (f4.new c hc).2
    have rp : RB s4 p (framesB l) := Rd.gr f3.rd (fun c hc => (f3.new c hc).2) f4.gr
    have rq : RB s4 q (framesB m) := f4.rd
    have lp := rp.lenB
    have lq := rq.lenB
    have g24 := f3.gr.trans f4.gr
    -- an empty slice, with p and what follows put behind it
    have cat : ∀ u : St, Gr s4 u → ∃ u1 x1 u2, aNew u (nSlice 0 (aFill [] [])) = some (Z (.sl u.size 0 0 (.known 0)), u1) ∧ aAppend 1 1 (Z (.sl u.size 0 0 (.known 0))) (Z p) u1 = some (Z x1, u2) ∧ FB u u2 x1 (framesB l) := fun u g => by
      have F := Fr.lit 1 g.wf (n := 0) (vs := []) rfl
      have F' : FB u (u.push (.cells true [])) (.sl u.size 0 0 (.known 0)) [] := F
      obtain ⟨x1, u2, e, f, _⟩ := FB.app F' (rp.gr op (g.trans F.gr)) (by simp; omega)
      exact ⟨_, x1, u2, rfl, e, by simpa using f⟩
    obtain ⟨u1, x1, u2, n1, p1, F1⟩ := cat s4 (Gr.refl f4.gr.wf)
    obtain ⟨x2, u3, p2, F2, _⟩ := FB.app F1 (rq.gr oq F1.gr) (by omega)
    obtain ⟨r1, u4, e5, R1⟩ := read_run' d F2.gr.wf F2.rd (fun c hc => (F2.new c hc).2) (by simp; omega)
    rw [more_two al am wl wm (by omega)] at e5 R1
    simp only [resR] at e5
    have g4a := F2.gr.trans R1.gr
    have l5 := (R1.rd : RE u4 r1 (l ++ m)).lens
    rw [List.length_append] at l5
    have ga := g24.trans g4a
    obtain ⟨u5, e6, g6⟩ := front_run (d + 8) R1.gr.wf (ra.gr oa ga) (up ga oa) (R1.rd : RE u4 r1 (l ++ m)) (fun c hc => (R1.new c hc).2) (by omega)
    rw [meetP_append, decide_eq_true rfl] at e6
    have g4b := g4a.trans g6
    obtain ⟨u6, x3, u7, n2, p3, F3⟩ := cat u5 g4b
    obtain ⟨x4, u9, p4, F4, hz4, _⟩ := FB.lit (cs := [0]) F3 (by simp; omega)
    have nl : aNew u7 (nSlice 1 (aFill [.int .u8 0] [(0, 1, (I .u8 0))])) = some (Z (.sl u7.size 0 1 (.known 1)), u7.push (.cells true (U [0]))) := rfl
    have p4' : aAppend 1 1 (Z x3) (Z (.sl u7.size 0 1 (.known 1))) (u7.push (.cells true (U [0]))) = some (Z x4, u9) := p4
    obtain ⟨u8, hu8⟩ : ∃ u8, u8 = u7.push (.cells true (U [0])) := ⟨_, rfl⟩
    rw [← hu8] at nl p4'
    have gq4 := g4b.trans F4.gr
    obtain ⟨x5, u10, p5, F5, _⟩ := FB.app F4 (rq.gr oq gq4) (by simp; omega)
    obtain ⟨r2, u11, e7, R2⟩ := read_run' d F5.gr.wf F5.rd (fun c hc => (F5.new c hc).2) (by simp; omega)
    rw [List.append_assoc, List.singleton_append, more_zero al wl (by omega)] at e7 R2
    simp only [resR] at e7
    have g4c := (g4b.trans F5.gr).trans R2.gr
    have l7 := (R2.rd : RE u11 r2 l).lens
    obtain ⟨u12, x6, u13, n3, p6, F6⟩ := cat u11 g4c
    have gz := ((f1.gr.trans f2.gr).trans g24).trans ((g4c).trans F6.gr)
    obtain ⟨x7, u14, p7, F7, _⟩ := FB.app F6 (hz.gr hoz gz) (by omega)
    obtain ⟨r3, u15, e8, R3⟩ := read_run' d F7.gr.wf F7.rd (fun c hc => (F7.new c hc).2) (by simp; omega)
    obtain ⟨mm, to, hmm, hto⟩ := more_any (x := l) (q := bs) al wl (by omega)
    have hlen := readP_len (framesB l ++ bs)
    rw [hmm] at e8 R3 hlen
    simp only [resR] at e8
    have l8 := (R3.rd : RE u15 r3 (l ++ mm)).lens
    rw [List.length_append] at l8
    have g4d := (g4c.trans F7.gr).trans R3.gr
    have gaz := g24.trans g4d
    obtain ⟨u16, e9, g9⟩ := front_run (d + 8) R3.gr.wf (ra.gr oa gaz) (up gaz oa) (R3.rd : RE u15 r3 (l ++ mm)) (fun c hc => (R3.new c hc).2) (by omega)
    rw [meetP_append, decide_eq_true rfl] at e9
    have w1 : IntKind.i64.wrap (((framesB l).length : Int) + ((framesB m).length : Nat)) = (((framesB l).length + (framesB m).length : Nat) : Int) := by rw [wrap_in _ (by omega) (by omega)]; omega
    have w2 : IntKind.i64.wrap (((l.length : Nat) : Int) + ((m.length : Nat) : Int)) = ((l.length + m.length : Nat) : Int) := by rw [wrap_in _ (by omega) (by omega)]; omega
    have c1 : ((l.length : Nat) : Int) ≤ ((l.length + mm.length : Nat) : Int) := by omega
    have c2 : (((framesB l).length : Nat) : Int) ≤ ((to : Nat) : Int) := by omega
    have gax := gaz.trans g9
    have agg0 : asAggT (aFill [.int .i64 0, .int .i64 0, .int .i64 0, .int .i64 0, .int .i64 0, .int .i64 0, .int .u32 0, .str []] []) = some (AE ent0) := rfl
    simp only [Nat.add_assoc, Nat.reduceAdd] at e1 e2 e3 e4 e5 e6 e7 e8 e9 tl5
    refine ⟨u16, ?_⟩
    have nee := neBE
    by_cases hne : l = []
    · have zz : aBin .eql (I .i64 ((l.length : Nat) : Int)) (I .i64 0) = some (B true) := by rw [hne]; rfl
      have zz2 : ∀ n : Int, aBin .eql (I .i64 n) (I .i64 n) = some (B true) := fun n => by rw [eql_int, decide_eq_true rfl]
      clear hne
      generalize ((l.length + m.length : Nat) : Int) = LM at *
      generalize ((l.length + mm.length : Nat) : Int) = LMM at *
      generalize (((framesB l).length + (framesB m).length : Nat) : Int) = FLM at *
      generalize (((framesB l).length : Nat) : Int) = FL at *
      generalize (((framesB m).length : Nat) : Int) = FM at *
      generalize ((to : Nat) : Int) = TO at *
      generalize ((bs.length : Nat) : Int) = BL at *
      generalize ((m.length : Nat) : Int) = ML at *
      generalize ((l.length : Nat) : Int) = LL at *
      generalize R (d + 11) = r at *
      simp [-eql_int, lz, c0, e1, e2, e3, aExtract, e4, n1, p1, p2, e5, lp, lq, w1, l5, la, lb, w2, e6, n2, p3, nl, p4', p5, e7, n3, p6, p7, e8, tl5, l7, l8, c1, c2, e9, zz, zz2]
    · have h0 : 0 < l.length := List.length_pos_iff.2 hne
      have hm0 : mayE l[0] = true := by
        rw [List.all_eq_true] at al
        exact al _ (List.getElem_mem h0)
      have hd : decide (l[0] = ent0) = false := decide_eq_false fun e => by
        rw [e] at hm0
        revert hm0
        decide +kernel
      obtain ⟨i0, i1, i2⟩ := RE.atE (ra.gr oa gax) (j := 0) (n := 0) rfl (List.getElem?_eq_getElem h0)
      have z0 : ¬ ((l.length : Nat) : Int) = 0 := by omega
      generalize ((l.length + m.length : Nat) : Int) = LM at *
      generalize ((l.length + mm.length : Nat) : Int) = LMM at *
      generalize (((framesB l).length + (framesB m).length : Nat) : Int) = FLM at *
      generalize (((framesB l).length : Nat) : Int) = FL at *
      generalize (((framesB m).length : Nat) : Int) = FM at *
      generalize ((to : Nat) : Int) = TO at *
      generalize ((bs.length : Nat) : Int) = BL at *
      generalize ((m.length : Nat) : Int) = ML at *
      generalize ((l.length : Nat) : Int) = LL at *
      generalize R (d + 11) = r at *
      simp [lz, c0, e1, e2, e3, aExtract, e4, n1, p1, p2, e5, lp, lq, w1, l5, la, lb, w2, e6, n2, p3, nl, p4', p5, e7, n3, p6, p7, e8, tl5, l7, l8, c1, c2, e9, z0, i1, i2, agg0, nee, hd]
end
end Go.Proofs.YtlhbidbdmdcdeaaGreatDoor
