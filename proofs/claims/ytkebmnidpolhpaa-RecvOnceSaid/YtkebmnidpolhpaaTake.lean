/-
  What Take does, in numbers, for any store in which the receiver holds numbers ahead of what is there, each with its byte. No conditions but those named in each line.
-/
import Derived.Test.YtkebmnidpolhpaaWalk
import Derived.Test.YtkebmnidpolhpaaAbsTwin
namespace Go.Proofs.Ytkebmnidpolhpaa
open Go Go.Abs Go.Abs.F
set_option linter.unusedVariables false

abbrev byteOf (n : Int) : S := .int .u8 (IntKind.u8.wrap n)
abbrev one (b : Nat) : S := .sl b 0 1 (.grown 1)

theorem find_int (x : Int) : ∀ (es : List (S × V)) (k0 : Nat), (∀ p ∈ es, ∃ q v, p = (S.int .i64 q, v)) →
    (∃ j v, aFind (.int .i64 x) es k0 = some (some (k0 + j, v)) ∧ es[j]? = some (.int .i64 x, v)) ∨ (aFind (.int .i64 x) es k0 = some none ∧ ∀ p ∈ es, p.1 ≠ .int .i64 x) := by
  intro es
  induction es with
  | nil => intro k0 _; exact .inr ⟨rfl, fun p hp => by cases hp⟩
  | cons p r ih =>
    intro k0 h
    obtain ⟨q, v, rfl⟩ := h p List.mem_cons_self
    by_cases e : x = q
    · subst e
      exact .inl ⟨0, v, by simp [aFind, keyEq], rfl⟩
    · have hk : aFind (.int .i64 x) ((S.int .i64 q, v) :: r) k0 = aFind (.int .i64 x) r (k0 + 1) := by simp [aFind, keyEq, e]
      rcases ih (k0 + 1) (fun p hp => h p (List.mem_cons_of_mem _ hp)) with ⟨j, w, h1, h2⟩ | ⟨h1, h2⟩
      · exact .inl ⟨j + 1, w, by rw [hk, h1, show k0 + 1 + j = k0 + (j + 1) by omega], by simpa using h2⟩
      · refine .inr ⟨by rw [hk, h1], fun p hp => ?_⟩
        rcases List.mem_cons.1 hp with rfl | hp
        · simpa using fun e' => e e'.symm
        · exact h2 p hp

/-- What a receiver holds. -/
structure Has (s : St) (i m : Nat) (n top : Int) (es : List (S × V)) : Prop where
  wf : s.wf
  ri : s.get i = some (.cells true [.int .i64 n, .map m])
  mp : s.get m = some (.map es)
  ent : ∀ p ∈ es, ∃ q b, p = (S.int .i64 q, V.s (one b)) ∧ n < q ∧ q ≤ top ∧ s.get b = some (.cells true [byteOf q])
  nd : (es.map (·.1)).Nodup

theorem Has.ints {s : St} {i m : Nat} {n top : Int} {es : List (S × V)} (h : Has s i m n top es) : ∀ p ∈ es, ∃ q v, p = (S.int .i64 q, v) := fun p hp => by
  obtain ⟨q, b, e, _⟩ := h.ent p hp
  exact ⟨q, _, e⟩

theorem Has.ne {s : St} {i m : Nat} {n top : Int} {es : List (S × V)} (h : Has s i m n top es) : m ≠ i := by
  intro e
  have h1 := h.mp
  rw [e, h.ri] at h1
  cases h1

/-- What was popped so far, from n0 on. -/
def Out (s : St) (n0 : Int) (d : Nat) (t : T) : Prop :=
  (d = 0 ∧ t = Z .nils) ∨ ∃ c rows, 0 < d ∧ t = Z (.sl c 0 d (.grown 1)) ∧ s.get c = some (.cells true rows) ∧ rows.length = d ∧ ∀ j, j < d → ∃ b, rows[j]? = some (one b) ∧ s.get b = some (.cells true [byteOf (n0 + 1 + j)])

section
variable {s : St} {i m : Nat} {n top : Int} {es : List (S × V)}

theorem eqB_sl (b o l : Nat) (c : Cap) : eqB .l (Z (.sl b o l c)) (Z .nils) = some (B false) := by cases c <;> rfl

theorem clone_run (d : Nat) {b : Nat} {own : Bool} {x : S} {c : Cap} (hb : s.get b = some (.cells own [x])) (wf : s.wf) :
    R (d + 1) 20 [Z (.sl b 0 1 c)] s = some (Z (one (s.size + 1)), (s.push (.cells true [])).push (.cells true [x])) := by
  have hlt := wf.lt hb
  have e1 : (s.push (.cells true [])).get b = some (.cells own [x]) := by rw [St.get_push_ne _ _ (by omega)]; exact hb
  have e2 : (s.push (.cells true [])).get s.size = some (.cells true []) := St.get_push_same _ _
  rw [f20_run]
  unfold f20
  simp [eqB_sl, aNew, nSlice, aFill, aAppend, aSrc, e1, e2]

theorem got_run (d : Nat) (h : s.get i = some (.cells true [.int .i64 n, .map m])) : R (d + 1) 11 [Z (.ptr i 0)] s = some (I .i64 n, s) := by
  have l0 : aLoad1 (Z (.ptr i 0)) s.get = some (I .i64 n) := aLoad1_of h rfl
  rw [f11_run]
  unfold f11
  simp [l0]

theorem new_run (d : Nat) : R (d + 1) 7 [] s = some (Z (.ptr (s.size + 1) 0), (s.push (.map [])).push (.cells true [.int .i64 0, .map s.size])) := by
  rw [f7_run]
  unfold f7
  simp [aNew, nMap, nBox, aFill, V.cells, setRange, asAggT]

/-- Between two rounds of the row. -/
def Row (s0 : St) (i m : Nat) (n0 : Int) (K k : Nat) (v : List T) (s : St) : Prop :=
  ∃ (es : List (S × V)) (d : Nat) (t : T), es.length = k ∧ v = [Z (.ptr i 0), t] ∧ Has s i m (n0 + d) (n0 + 8) es ∧ Out s n0 d t ∧ s0.size ≤ s.size ∧ (∀ b, b < s0.size → b ≠ i → b ≠ m → s.get b = s0.get b) ∧ (∀ c, t = Z (.sl c 0 d (.grown 1)) → s0.size ≤ c) ∧ d ≤ 8 ∧ es.length ≤ K

/-- When the row has ended. -/
def Ended (s0 : St) (i m : Nat) (n0 : Int) (K : Nat) (j : JO) (s : St) : Prop :=
  ∃ (es : List (S × V)) (d : Nat) (t : T), j = .exit 1 [t] ∧ Has s i m (n0 + d) (n0 + 8) es ∧ Out s n0 d t ∧ s0.size ≤ s.size ∧ (∀ b, b < s0.size → b ≠ i → b ≠ m → s.get b = s0.get b) ∧ (∀ p ∈ es, p.1 ≠ .int .i64 (n0 + d + 1)) ∧ d ≤ 8 ∧ es.length ≤ K

theorem erase_ne {k : S} {v : V} : ∀ (es : List (S × V)) (j : Nat), (es.map (·.1)).Nodup → es[j]? = some (k, v) → ∀ p ∈ es.eraseIdx j, p.1 ≠ k := by
  intro es
  induction es with
  | nil => intro j _ h; simp at h
  | cons a r ih =>
    intro j hn hj p hp
    rw [List.map_cons, List.nodup_cons] at hn
    cases j with
    | zero =>
      simp at hj
      subst hj
      rw [List.eraseIdx_cons_zero] at hp
      intro e
      have := List.mem_map_of_mem (f := Prod.fst) hp
      rw [e] at this
      exact hn.1 this
    | succ j =>
      simp at hj
      rw [List.eraseIdx_cons_succ] at hp
      rcases List.mem_cons.1 hp with rfl | hp
      · intro e
        have := List.mem_map_of_mem (f := Prod.fst) (List.mem_of_getElem? hj)
        rw [← e] at this
        exact hn.1 this
      · exact ih j hn.2 hj p hp

theorem Has.moved {s t : St} {i m : Nat} {n top : Int} {es es' : List (S × V)} (h : Has s i m n top es) (wf : t.wf) (hi : t.get i = some (.cells true [.int .i64 (n + 1), .map m])) (hm : t.get m = some (.map es'))
    (hsub : ∀ p ∈ es', p ∈ es ∧ p.1 ≠ .int .i64 (n + 1)) (hnd : (es'.map (·.1)).Nodup) (hk : ∀ b x, s.get b = some (.cells true [.int .u8 x]) → t.get b = some (.cells true [.int .u8 x])) : Has t i m (n + 1) top es' := by
  refine ⟨wf, hi, hm, fun p hp => ?_, hnd⟩
  obtain ⟨h1, h2⟩ := hsub p hp
  obtain ⟨q, b, e, h3, h4, h5⟩ := h.ent p h1
  refine ⟨q, b, e, ?_, h4, hk _ _ h5⟩
  have : q ≠ n + 1 := fun e' => h2 (by rw [e, e'])
  omega

theorem row_step (r : CallF) (s0 : St) (i m : Nat) (n0 : Int) (hn0 : 0 ≤ n0) (hn1 : n0 ≤ 1000000) (hi0 : i < s0.size) (hm0 : m < s0.size) (K k : Nat) (v : List T) (s : St) (h : Row s0 i m n0 K k v s) :
    (∃ v' s' k', f9_l1 r 512 v s = some (.normal v', s') ∧ k = k' + 1 ∧ Row s0 i m n0 K k' v' s') ∨ ∃ j s', f9_l1 r 512 v s = some (j, s') ∧ (∀ v, j ≠ .normal v) ∧ Ended s0 i m n0 K j s' := by
  obtain ⟨es, d, t, hk, rfl, hh, ho, hsz, hfr, hc, hd8, hK⟩ := h
  have hi := hh.wf.lt hh.ri
  have hm := hh.wf.lt hh.mp
  have hmi := hh.ne
  have l0 : aLoad1 (Z (.ptr i 0)) s.get = some (I .i64 (n0 + d)) := aLoad1_of hh.ri rfl
  have l1 : aLoad1 (Z (.ptr i 1)) s.get = some (Z (.map m)) := aLoad1_of hh.ri rfl
  have w1 : IntKind.i64.wrap (n0 + d + 1) = n0 + d + 1 := wrap_in _ (by omega) (by omega)
  rcases find_int (n0 + d + 1) es 0 hh.ints with ⟨j, w, hf, hj⟩ | ⟨hf, hne⟩
  · left
    rw [Nat.zero_add] at hf
    obtain ⟨q, b, e, hq1, hq2, hb⟩ := hh.ent _ (List.mem_of_getElem? hj)
    simp only [Prod.mk.injEq, S.int.injEq, true_and] at e
    obtain ⟨rfl, rfl⟩ := e
    have hbl := hh.wf.lt hb
    have hjl : j < es.length := (List.getElem?_eq_some_iff.1 hj).1
    have lk : Go.Abs.F.look .i true (.s .nils) (Z (.map m)) (I .i64 (n0 + d + 1)) s.get = some (.tup [.s (one b), .s (.bool true)]) := by
      simp [Go.Abs.F.look, isKey, aLookup, hh.mp, hf]
    obtain ⟨s1, hs1⟩ : ∃ s1, s1 = s.set i (.cells true [.int .i64 (n0 + d + 1), .map m]) := ⟨_, rfl⟩
    have st : aStore 1 (Z (.ptr i 0)) (I .i64 (n0 + d + 1)) s = some (tt, s1) := by rw [hs1]; exact aStore1_of hh.ri (by simp)
    have g1 : ∀ x, x ≠ i → s1.get x = s.get x := fun x hx => by rw [hs1, St.get_set_ne _ _ hx]
    have g1i : s1.get i = some (.cells true [.int .i64 (n0 + d + 1), .map m]) := by rw [hs1, St.get_set_same]
    have z1 : s1.size = s.size := by rw [hs1]; rfl
    have f1 : s1.wf := by rw [hs1]; exact St.wf_set hh.wf hi _
    have m0 : aLoad1 (Z (.ptr i 0)) s1.get = some (I .i64 (n0 + d + 1)) := aLoad1_of g1i rfl
    have m1 : aLoad1 (Z (.ptr i 1)) s1.get = some (Z (.map m)) := aLoad1_of g1i rfl
    obtain ⟨s2, hs2⟩ : ∃ s2, s2 = s1.set m (.map (es.eraseIdx j)) := ⟨_, rfl⟩
    have dl : mdel .i (Z (.map m)) (I .i64 (n0 + d + 1)) s1 = some (tt, s2) := by
      simp [mdel, isKey, aDelete, g1 m hmi, hh.mp, hf, hs2]
    have g2 : ∀ x, x ≠ m → s2.get x = s1.get x := fun x hx => by rw [hs2, St.get_set_ne _ _ hx]
    have g2m : s2.get m = some (.map (es.eraseIdx j)) := by rw [hs2, St.get_set_same]
    have z2 : s2.size = s.size := by rw [hs2]; exact z1
    have f2 : s2.wf := by rw [hs2]; exact St.wf_set f1 (by omega) _
    obtain ⟨s3, hs3⟩ : ∃ s3, s3 = s2.push (.cells true [one b]) := ⟨_, rfl⟩
    have nw : aNew s2 (nSlice 1 (aFill [.nils] [(0, 1, Z (one b))])) = some (Z (.sl s.size 0 1 (.known 1)), s3) := by
      simp [aNew, nSlice, aFill, V.cells, setRange, z2, hs3]
    have g3 : ∀ x, x ≠ s.size → s3.get x = s2.get x := fun x hx => by rw [hs3, St.get_push_ne _ _ (by omega)]
    have g3n : s3.get s.size = some (.cells true [one b]) := by rw [hs3, ← z2, St.get_push_same]
    have z3 : s3.size = s.size + 1 := by rw [hs3, St.size_push, z2]
    have f3 : s3.wf := by rw [hs3]; exact St.wf_push f2 _
    have keep : ∀ x, x ≠ i → x ≠ m → x < s.size → s3.get x = s.get x := fun x h1 h2 h3 => by rw [g3 x (by omega), g2 x h2, g1 x h1]
    have hsub : ∀ p ∈ es.eraseIdx j, p ∈ es ∧ p.1 ≠ .int .i64 (n0 + d + 1) := fun p hp => ⟨List.mem_of_mem_eraseIdx hp, erase_ne es j hh.nd hj p hp⟩
    have hnd : ((es.eraseIdx j).map (·.1)).Nodup := hh.nd.sublist ((List.eraseIdx_sublist es j).map _)
    have hlen : k = (es.eraseIdx j).length + 1 := by rw [List.length_eraseIdx]; simp [hjl]; omega
    -- what the append gives
    have ap : ∃ s4 rows, aAppend 1 24 t (Z (.sl s.size 0 1 (.known 1))) s3 = some (Z (.sl (s.size + 1) 0 (d + 1) (.grown 1)), s4) ∧ s4.wf ∧ s4.size = s.size + 2 ∧ s4.get (s.size + 1) = some (.cells true rows) ∧ rows.length = d + 1 ∧
        (∀ x y, s.get x = some (.cells true [.int .u8 y]) → s4.get x = some (.cells true [.int .u8 y])) ∧ (∀ x, x = i ∨ x = m → s4.get x = s2.get x) ∧ (∀ x, x < s0.size → x ≠ i → x ≠ m → s4.get x = s.get x) ∧
        (∀ l, l < d + 1 → ∃ b', rows[l]? = some (one b') ∧ s.get b' = some (.cells true [byteOf (n0 + 1 + l)])) := by
      have hbytes : ∀ x y, s.get x = some (.cells true [.int .u8 y]) → x ≠ i ∧ x ≠ m ∧ x < s.size := fun x y hx => ⟨(fun e => by rw [e, hh.ri] at hx; simp at hx), (fun e => by rw [e, hh.mp] at hx; simp at hx), hh.wf.lt hx⟩
      have hbq : s.get b = some (.cells true [byteOf (n0 + 1 + d)]) := by rw [hb, show n0 + d + 1 = n0 + 1 + d by omega]
      rcases ho with ⟨rfl, rfl⟩ | ⟨c, rows, hd, rfl, hcr, hrl, hrows⟩
      · refine ⟨s3.push (.cells true [one b]), [one b], ?_, St.wf_push f3 _, by simp [z3], by rw [← z3, St.get_push_same], rfl, fun x y hx => ?_, fun x hx => ?_, fun x h1 h2 h3 => ?_, fun l hl => ?_⟩
        · simp [aAppend, aSrc, g3n, z3]
        · obtain ⟨h1, h2, h3⟩ := hbytes x y hx
          rw [St.get_push_ne _ _ (by omega), keep x h1 h2 h3, hx]
        · have : x < s.size := by rcases hx with rfl | rfl <;> assumption
          rw [St.get_push_ne _ _ (by omega), g3 x (by omega)]
        · rw [St.get_push_ne _ _ (by omega), keep x h2 h3 (by omega)]
        · obtain rfl : l = 0 := by omega
          exact ⟨b, rfl, hbq⟩
      · have hcl := hh.wf.lt hcr
        have hci : c ≠ i := fun e => by
          rw [e, hh.ri] at hcr
          simp only [Option.some.injEq, Blk.cells.injEq, true_and] at hcr
          obtain ⟨b', hb', _⟩ := hrows 0 hd
          rw [← hcr] at hb'
          simp at hb'
        have hcm : c ≠ m := fun e => by rw [e, hh.mp] at hcr; simp at hcr
        have hc0 := hc c rfl
        have e1 : s3.get c = some (.cells true rows) := by rw [keep c hci hcm hcl, hcr]
        have hfull : ¬ (d + 1) ≤ rows.length := by omega
        have hle : d ≤ rows.length := by omega
        have htk : rows.take d = rows := List.take_of_length_le (by omega)
        refine ⟨(s3.set c .dead).push (.cells true (rows ++ [one b])), rows ++ [one b], ?_, St.wf_push (St.wf_set f3 (by omega) _) _, by simp [z3], ?_, by simp [hrl], fun x y hx => ?_, fun x hx => ?_, fun x h1 h2 h3 => ?_, fun l hl => ?_⟩
        · have hbig : (d + 1) * 24 ≤ 140737488355328 := by omega
          simp [aAppend, aSrc, g3n, e1, hfull, hle, htk, z3, hbig]
        · have := St.get_push_same (s3.set c .dead) (.cells true (rows ++ [one b]))
          rwa [St.size_set, z3] at this
        · obtain ⟨h1, h2, h3⟩ := hbytes x y hx
          have hxc : x ≠ c := fun e => by
            rw [e, hcr] at hx
            simp only [Option.some.injEq, Blk.cells.injEq, true_and] at hx
            obtain ⟨b', hb', _⟩ := hrows 0 hd
            rw [hx] at hb'
            simp at hb'
          rw [St.get_push_ne _ _ (by rw [St.size_set]; omega), St.get_set_ne _ _ hxc, keep x h1 h2 h3, hx]
        · have hx' : x < s.size ∧ x ≠ c := by rcases hx with rfl | rfl <;> exact ⟨by assumption, Ne.symm (by assumption)⟩
          rw [St.get_push_ne _ _ (by rw [St.size_set]; omega), St.get_set_ne _ _ hx'.2, g3 x (by omega)]
        · rw [St.get_push_ne _ _ (by rw [St.size_set]; omega), St.get_set_ne _ _ (by omega), keep x h2 h3 (by omega)]
        · by_cases hld : l < d
          · rw [List.getElem?_append_left (by omega)]
            exact hrows l hld
          · obtain rfl : l = d := by omega
            rw [List.getElem?_append_right (by omega), hrl, Nat.sub_self]
            exact ⟨b, rfl, hbq⟩
    obtain ⟨s4, rows, ap1, f4, z4, g4, hrl, hby, him, hold, hrows⟩ := ap
    refine ⟨[Z (.ptr i 0), Z (.sl (s.size + 1) 0 (d + 1) (.grown 1))], s4, (es.eraseIdx j).length, ?_, hlen, es.eraseIdx j, d + 1, _, rfl, rfl, ?_, ?_, by omega, fun x h1 h2 h3 => by rw [hold x h1 h2 h3]; exact hfr x h1 h2 h3, fun c hc' => ?_, by omega, by omega⟩
    · unfold f9_l1
      simp [l0, l1, w1, lk, st, m0, m1, dl, nw, ap1, aExtract]
    · have : n0 + ((d + 1 : Nat) : Int) = n0 + d + 1 := by omega
      rw [this]
      exact hh.moved f4 (by rw [him i (.inl rfl), g2 i (Ne.symm hmi), g1i]) (by rw [him m (.inr rfl), g2m]) hsub hnd hby
    · refine .inr ⟨s.size + 1, rows, by omega, rfl, g4, hrl, fun l hl => ?_⟩
      obtain ⟨b', h1, h2⟩ := hrows l hl
      exact ⟨b', h1, hby _ _ h2⟩
    · have : c = s.size + 1 := by simpa using hc'.symm
      omega
  · right
    have lk : Go.Abs.F.look .i true (.s .nils) (Z (.map m)) (I .i64 (n0 + d + 1)) s.get = some (.tup [.s .nils, .s (.bool false)]) := by
      simp [Go.Abs.F.look, isKey, aLookup, hh.mp, hf]
    refine ⟨.exit 1 [t], s, ?_, (fun v hv => by cases hv), es, d, t, rfl, hh, ho, hsz, hfr, hne, hd8, hK⟩
    unfold f9_l1
    simp [l0, l1, w1, lk, aExtract]

/-- What a call of Take has left. -/
structure Left (s τ : St) (i m : Nat) (n : Int) (K d : Nat) (x : S) : Prop where
  has : ∃ es, Has τ i m (n + d) (n + d + 8) es ∧ (∀ p ∈ es, p.1 ≠ .int .i64 (n + d + 1)) ∧ es.length ≤ K
  out : Out τ n d (Z x)
  size : s.size ≤ τ.size
  old : ∀ b, b < s.size → b ≠ i → b ≠ m → τ.get b = s.get b
  few : d ≤ 8

theorem Has.mono {s : St} {i m : Nat} {n top top' : Int} {es : List (S × V)} (h : Has s i m n top es) (ht : top ≤ top') : Has s i m n top' es :=
  ⟨h.wf, h.ri, h.mp, fun p hp => by obtain ⟨q, b, h1, h2, h3, h4⟩ := h.ent p hp; exact ⟨q, b, h1, h2, by omega, h4⟩, h.nd⟩

theorem Left.none {s : St} {i m : Nat} {n : Int} {K : Nat} {es : List (S × V)} (h : Has s i m n (n + 8) es) (hn : ∀ p ∈ es, p.1 ≠ .int .i64 (n + 1)) (hl : es.length ≤ K) : Left s s i m n (K + 1) 0 .nils :=
  ⟨⟨es, by simpa using h, by simpa using hn, by omega⟩, .inl ⟨rfl, rfl⟩, Nat.le_refl _, fun _ _ _ _ => rfl, by omega⟩

theorem take_run (f : Nat) {s : St} {i m bb : Nat} {n seq : Int} {es : List (S × V)} {own : Bool} {c : Cap} {K : Nat} (h : Has s i m n (n + 8) es) (hn : ∀ p ∈ es, p.1 ≠ .int .i64 (n + 1)) (hl : es.length ≤ K) (hK : K < 500) (h0 : 0 ≤ n) (h1 : n ≤ 100000)
    (q0 : -10 ≤ seq) (q1 : seq ≤ 1000000) (hb : s.get bb = some (.cells own [byteOf seq])) :
    ∃ e x τ d, R (f + 2) 9 [Z (.ptr i 0), I .i64 seq, Z (.sl bb 0 1 c)] s = some (.tup [.s x, .s (.int .i64 e)], τ) ∧ (e ≠ 0 ↔ (seq < 1 ∨ n + 8 < seq)) ∧ Left s τ i m n (K + 1) d x := by
  have l0 : aLoad1 (Z (.ptr i 0)) s.get = some (I .i64 n) := aLoad1_of h.ri rfl
  have l1 : aLoad1 (Z (.ptr i 1)) s.get = some (Z (.map m)) := aLoad1_of h.ri rfl
  have w8 : IntKind.i64.wrap (seq - 8) = seq - 8 := wrap_in _ (by omega) (by omega)
  have hi := h.wf.lt h.ri
  have hm := h.wf.lt h.mp
  rw [f9_run]
  unfold f9
  by_cases c1 : seq < 1
  · refine ⟨5, .nils, s, 0, ?_, by simp [c1], Left.none h hn hl⟩
    simp [c1, retT, allV]
  by_cases c2 : n < seq - 8
  · refine ⟨5, .nils, s, 0, ?_, by constructor <;> intro _ <;> first | omega | (right; omega), Left.none h hn hl⟩
    simp [c1, l0, w8, c2, retT, allV]
  have he : (0 : Int) ≠ 0 ↔ (seq < 1 ∨ n + 8 < seq) := by constructor <;> intro hh <;> omega
  rcases find_int seq es 0 h.ints with ⟨j, w, hf, hj⟩ | ⟨hf, hne⟩
  · rw [Nat.zero_add] at hf
    have lk : Go.Abs.F.look .i true (.s .nils) (Z (.map m)) (I .i64 seq) s.get = some (.tup [w, .s (.bool true)]) := by
      simp [Go.Abs.F.look, isKey, aLookup, h.mp, hf]
    refine ⟨0, .nils, s, 0, ?_, he, Left.none h hn hl⟩
    simp [c1, l0, l1, w8, c2, retT, allV, lk, aExtract]
  have lk : Go.Abs.F.look .i true (.s .nils) (Z (.map m)) (I .i64 seq) s.get = some (.tup [.s .nils, .s (.bool false)]) := by
    simp [Go.Abs.F.look, isKey, aLookup, h.mp, hf]
  by_cases c3 : seq ≤ n
  · refine ⟨0, .nils, s, 0, ?_, he, Left.none h hn hl⟩
    simp [c1, l0, l1, w8, c2, retT, allV, lk, aExtract, c3]
  have e20 := clone_run (c := c) f hb h.wf
  obtain ⟨s8, hs8⟩ : ∃ s8, s8 = (s.push (.cells true [])).push (.cells true [byteOf seq]) := ⟨_, rfl⟩
  rw [← hs8] at e20
  have g8 : ∀ x, x < s.size → s8.get x = s.get x := fun x hx => by rw [hs8, St.get_push_ne _ _ (by rw [St.size_push]; omega), St.get_push_ne _ _ (by omega)]
  have g8n : s8.get (s.size + 1) = some (.cells true [byteOf seq]) := by
    have := St.get_push_same (s.push (.cells true [])) (.cells true [byteOf seq])
    rwa [St.size_push, ← hs8] at this
  have z8 : s8.size = s.size + 2 := by rw [hs8]; rfl
  have f8 : s8.wf := by rw [hs8]; exact St.wf_push (St.wf_push h.wf _) _
  have l8 : aLoad1 (Z (.ptr i 1)) s8.get = some (Z (.map m)) := aLoad1_of ((g8 i hi).trans h.ri) rfl
  obtain ⟨s9, hs9⟩ : ∃ s9, s9 = s8.set m (.map (es ++ [(S.int .i64 seq, V.s (one (s.size + 1)))])) := ⟨_, rfl⟩
  have ms : mset .i (Z (.map m)) (I .i64 seq) (Z (one (s.size + 1))) s8 = some (tt, s9) := by
    simp [mset, isKey, aMapSet, (g8 m hm).trans h.mp, hf, hs9]
  have g9 : ∀ x, x ≠ m → s9.get x = s8.get x := fun x hx => by rw [hs9, St.get_set_ne _ _ hx]
  have z9 : s9.size = s.size + 2 := by rw [hs9]; exact z8
  have hh9 : Has s9 i m n (n + 8) (es ++ [(S.int .i64 seq, V.s (one (s.size + 1)))]) := by
    refine ⟨by rw [hs9]; exact St.wf_set f8 (by omega) _, by rw [g9 i (Ne.symm h.ne), g8 i hi]; exact h.ri, by rw [hs9, St.get_set_same], fun p hp => ?_, ?_⟩
    · rcases List.mem_append.1 hp with hp | hp
      · obtain ⟨q, b, a1, a2, a3, a4⟩ := h.ent p hp
        have hbl := h.wf.lt a4
        have hbm : b ≠ m := fun e => by rw [e, h.mp] at a4; simp at a4
        exact ⟨q, b, a1, a2, a3, by rw [g9 b hbm, g8 b hbl]; exact a4⟩
      · rw [List.mem_singleton] at hp
        exact ⟨seq, s.size + 1, hp, by omega, by omega, by rw [g9 _ (by omega)]; exact g8n⟩
    · rw [List.map_append, List.nodup_append]
      refine ⟨h.nd, by simp, fun a ha b hb' => ?_⟩
      obtain ⟨p, hp, rfl⟩ := List.mem_map.1 ha
      simp at hb'
      subst hb'
      exact hne p hp
  have hlen : (es ++ [(S.int .i64 seq, V.s (one (s.size + 1)))]).length = es.length + 1 := by simp
  obtain ⟨j, τ, hlp, es', d, t, hj, hh', ho', hsz', hfr', hne', hd', hK'⟩ := loops_inv (Row s9 i m n (K + 1)) (Ended s9 i m n (K + 1)) (row_step (R (f + 1)) s9 i m n h0 (by omega) (by omega) (by omega) (K + 1)) 512 (es.length + 1) [Z (.ptr i 0), Z .nils] s9
    ⟨_, 0, Z .nils, hlen, rfl, by simpa using hh9, .inl ⟨rfl, rfl⟩, Nat.le_refl _, fun _ _ _ _ => rfl, fun c hc => by simp at hc, by omega, by omega⟩ (by omega)
  subst hj
  obtain ⟨x, rfl⟩ : ∃ x, t = Z x := by
    rcases ho' with ⟨_, e⟩ | ⟨c, rows, _, e, _⟩
    · exact ⟨_, e⟩
    · exact ⟨_, e⟩
  refine ⟨0, x, τ, d, ?_, he, ⟨⟨es', hh'.mono (by omega), hne', hK'⟩, ho', by omega, fun b b1 b2 b3 => ?_, hd'⟩⟩
  · generalize R (f + 1) = r at e20 hlp ⊢
    simp [c1, l0, l1, w8, c2, retT, allV, lk, aExtract, c3, e20, l8, ms, hlp]
  · rw [hfr' b (by omega) b2 b3, g9 b b3, g8 b b1]
end
end Go.Proofs.Ytkebmnidpolhpaa
