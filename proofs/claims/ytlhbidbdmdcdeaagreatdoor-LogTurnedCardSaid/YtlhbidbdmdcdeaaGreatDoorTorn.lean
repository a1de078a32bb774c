/-
  LogTorn: what stands whole in a torn row is read. No conditions but those named in each line.
-/
import Derived.Test.YtlhbidbdmdcdeaaGreatDoorRowsE
namespace Go.Proofs.YtlhbidbdmdcdeaaGreatDoor
open Go Go.Abs Go.Abs.F
set_option linter.unusedVariables false

theorem torn_cut : ∀ (l : List Ent) (k : Nat), k ≤ (framesB l).length → ∃ j post, (framesB l).take k = framesB (l.take j) ++ post ∧ ((∃ hj : j < l.length, ∃ more, more ≠ [] ∧ post ++ more = wrapB (putB l[j])) ∨ (j = l.length ∧ post = []))
  | [], k, h => ⟨0, [], by simp [framesB], .inr ⟨rfl, rfl⟩⟩
  | e :: r, k, h => by
    by_cases hk : (wrapB (putB e)).length ≤ k
    · obtain ⟨j, post, h1, h2⟩ := torn_cut r (k - (wrapB (putB e)).length) (by simp [framesB] at h; omega)
      refine ⟨j + 1, post, ?_, ?_⟩
      · simp only [framesB, List.take_succ_cons]
        rw [List.take_append, List.take_of_length_le hk, h1, List.append_assoc]
      · rcases h2 with ⟨hj, m, h3, h4⟩ | ⟨h3, h4⟩
        · exact .inl ⟨by simpa using hj, m, h3, by simpa using h4⟩
        · exact .inr ⟨by simp [h3], h4⟩
    · refine ⟨0, (wrapB (putB e)).take k, ?_, .inl ⟨by simp, (wrapB (putB e)).drop k, fun h0 => ?_, by simp [List.take_append_drop]⟩⟩
      · simp only [framesB, List.take_zero, List.nil_append]
        rw [List.take_append_of_le_length (by omega)]
      · have := congrArg List.length h0
        rw [List.length_drop] at this
        simp at this
        omega

theorem wrapB_le (p : Bs) : p.length ≤ (wrapB p).length := by simp [wrapB]; omega

theorem torn_law {l : List Ent} (hm : l.all mayE = true) (hw : ∀ e ∈ l, EWf e) (hl : l.length ≤ 2000) {k : Nat} (hk : k ≤ (framesB l).length) :
    ∃ j, j ≤ l.length ∧ readP ((framesB l).take k) = (l.take j, (framesB (l.take j)).length) ∧ (framesB (l.take j)).length ≤ k ∧ (∀ hj : j < l.length, k < (framesB (l.take j)).length + (wrapB (putB l[j])).length) ∧ (j = l.length → k = (framesB l).length) := by
  obtain ⟨j, post, h1, h2⟩ := torn_cut l k hk
  have hlen : k = (framesB (l.take j)).length + post.length := by
    have := congrArg List.length h1
    rw [List.length_take, List.length_append] at this
    omega
  have hjl : j ≤ l.length := by rcases h2 with ⟨hj, _⟩ | ⟨hj, _⟩ <;> omega
  have hr := readP_frames (bs := (framesB l).take k) (l := l.take j) (post := post) (by rw [List.length_take]; omega) (all_take j hm) (fun e he => hw e (List.mem_of_mem_take he)) h1
  have hno : openB ((framesB l).take k) (framesB (l.take j)).length = none := by
    cases ho : openB ((framesB l).take k) (framesB (l.take j)).length with
    | none => rfl
    | some pe =>
      obtain ⟨p, e⟩ := pe
      exfalso
      obtain ⟨he1, he2, post', hp⟩ := openB_back ho
      rw [h1, List.drop_left] at hp
      rcases h2 with ⟨hj, more, hne, hq⟩ | ⟨_, rfl⟩
      · rw [hp] at hq
        have hme : mayE l[j] = true := by
          rw [List.all_eq_true] at hm
          exact hm _ (List.getElem_mem hj)
        have hql := mayE_len hme
        have hwl := wrapB_len (putB l[j])
        have h3 := congrArg List.length hq
        rw [List.length_append, List.length_append] at h3
        have := wrapB_le p
        have hf := wrapB_free (p := p) (q := putB l[j]) (r := post' ++ more) (r' := []) (by rw [List.append_nil, ← hq, List.append_assoc]) (by omega) (by omega)
        exact hne (List.append_eq_nil_iff.1 hf.2).2
      · have := congrArg List.length hp
        rw [List.length_append] at this
        have h4 : (wrapB p).length = 0 := by simp at this; omega
        simp [wrapB, four] at h4
  rw [readL_none hno] at hr
  refine ⟨j, hjl, hr, by omega, fun hj => ?_, fun hj => ?_⟩
  · rcases h2 with ⟨_, more, hne, hq⟩ | ⟨h, _⟩
    · rw [← hq, List.length_append]
      have : 0 < more.length := List.length_pos_iff.2 hne
      omega
    · omega
  · rcases h2 with ⟨h, _⟩ | ⟨_, hp⟩
    · omega
    · rw [hp] at hlen
      rw [hj, List.take_length] at hlen
      simpa using hlen

section
variable {s t : St} {x y : S} {bs cs : Bs} {i : Nat} {l m : List Ent}

theorem meetP_take (l : List Ent) (k : Nat) : meetP (l.take k) l = (l.take k).length := by
  induction l generalizing k with
  | nil => simp [meetP]
  | cons e r ih => cases k with
    | zero => simp [meetP]
    | succ k =>
      rw [List.take_succ_cons]
      show (if e = e then _ else _) = _
      rw [if_pos rfl, ih]
      rfl

theorem allP_may (hm : l.all mayE = true) (hl : l.length ≤ 2000) : allP l = (framesB l, 0) := by unfold allP; rw [if_pos hm, if_pos hl]

theorem RE_upto (h : RE s x l) {k : Nat} (hk : k ≤ l.length) : ∃ y, aPieceSl 8 (Z x) none (some (I .i64 k)) none = some (Z y) ∧ RE s y (l.take k) ∧ (own y = none ∨ own y = own x) := by
  obtain ⟨y, a, b, c⟩ := Rd.upto h hk
  refine ⟨y, a, ?_, c⟩
  rw [cells_take cE_len] at b
  have : (l.take k).length = k := by rw [List.length_take]; omega
  unfold RE
  rw [this]
  exact b

theorem RB_upto (h : RB s x bs) {k : Nat} (hk : k ≤ bs.length) : ∃ y, aPieceSl 1 (Z x) none (some (I .i64 k)) none = some (Z y) ∧ RB s y (bs.take k) ∧ (own y = none ∨ own y = own x) := by
  obtain ⟨y, a, b, c⟩ := Rd.upto h hk
  refine ⟨y, a, ?_, c⟩
  rw [Nat.mul_one, U_take] at b
  have : (bs.take k).length = k := by rw [List.length_take]; omega
  unfold RB
  rw [this]
  exact b

theorem own_lt {x y : S} {n : Nat} (h : own y = none ∨ own y = own x) (hx : ∀ c, own x = some c → c < n) : ∀ c, own y = some c → c < n := fun c hc => by
  rcases h with h | h
  · rw [h] at hc; cases hc
  · rw [h] at hc; exact hx c hc

/-- The remainder of a number, as the laws make it. -/
theorem mod_run (v : Int) {n : Nat} (h0 : 0 < n) (hn : n < 2 ^ 62) : ∃ k : Nat, k < n ∧ k = rowK v % n ∧ aConv .u64 (I .i64 v) = some (I .u64 (rowK v : Nat)) ∧ aConv .u64 (I .i64 (n : Nat)) = some (I .u64 (n : Nat)) ∧ aBin .rem (I .u64 (rowK v : Nat)) (I .u64 (n : Nat)) = some (I .u64 (k : Nat)) ∧ aConv .i64 (I .u64 (k : Nat)) = some (I .i64 (k : Nat)) :=
  ⟨_, Nat.mod_lt _ h0, rfl, by rw [aConv_int, rowK_eq], by rw [aConv_int, wrap64 _ (by omega)], rem_nat .u64 _ _ h0, by
    have := Nat.mod_lt (rowK v) h0
    rw [aConv_int, wrapi _ (by omega)]⟩

theorem torn_run (d : Nat) (wf : s.wf) {is : List Int} {cut : Int} (hx : Rd 1 s x is.length (I64 is)) (hox : ∀ c, own x = some c → c < s.size) : ∃ t, R (d + 12) 5 [Z x, I .i64 cut] s = some (B true, t) := by
  rw [f5_run]
  unfold f5
  obtain ⟨hm, hw, hl⟩ := rowsE_may is
  have hfl := rowsE_len is
  obtain ⟨o, s1, e1, f1⟩ := rows_run (d + 10) wf hx hox
  generalize rowsE is = l at *
  have ho1 : ∀ c, own o = some c → c < s1.size := fun c hc => (f1.new c hc).2
  obtain ⟨z, s2, e2, f2⟩ := all_run d f1.gr.wf f1.rd ho1 hw (by omega)
  rw [allP_may hm (by omega)] at e2 f2
  have hll := RB.lenB (bs := framesB l) f2.rd
  obtain ⟨k, hk, _, c1, c2, r1, c3⟩ := mod_run cut (n := (framesB l).length + 1) (by omega) (by omega)
  have w1 : IntKind.i64.wrap (((framesB l).length : Int) + 1) = (((framesB l).length + 1 : Nat) : Int) := by rw [wrap_in _ (by omega) (by omega)]; omega
  obtain ⟨y, p1, ry, oy⟩ := RB_upto (bs := framesB l) f2.rd (k := k) (by omega)
  have ho2 : ∀ c, own z = some c → c < s2.size := fun c hc => (f2.new c hc).2
  obtain ⟨u, s3, e3, f3⟩ := read_run' d f2.gr.wf ry (own_lt oy ho2) (by rw [List.length_take]; omega)
  obtain ⟨j, hj, hr, hle, hlt, heq⟩ := torn_law hm hw (by omega) (k := k) (by omega)
  rw [hr] at e3 f3
  simp only [resR] at e3
  have hlj : (l.take j).length = j := by rw [List.length_take]; omega
  have ul : aLenSl (Z u) = some (I .i64 ((l.take j).length : Nat)) := f3.rd.lens
  rw [hlj] at ul
  have g13 : Gr s1 s3 := f2.gr.trans f3.gr
  have re3 : RE s3 o l := (f1.rd : RE s1 o l).gr ho1 g13
  have ol := (f1.rd : RE s1 o l).lens
  have ho3 : ∀ c, own o = some c → c < s3.size := fun c hc => Nat.lt_of_lt_of_le (ho1 c hc) g13.2.1
  have hu3 : ∀ c, own u = some c → c < s3.size := fun c hc => (f3.new c hc).2
  obtain ⟨s4, e4, g4⟩ := front_run (d + 8) f3.gr.wf (f3.rd : RE s3 u (l.take j)) hu3 re3 ho3 (by rw [List.length_take]; omega)
  rw [meetP_take, decide_eq_true rfl] at e4
  obtain ⟨v, p2, rv, ov⟩ := RE_upto (re3.gr ho3 g4) (k := j) hj
  have ho4 : ∀ c, own o = some c → c < s4.size := fun c hc => Nat.lt_of_lt_of_le (ho3 c hc) g4.2.1
  obtain ⟨q, s5, e5, f5⟩ := all_run d g4.wf rv (own_lt ov ho4) (fun e he => hw e (List.mem_of_mem_take he)) (by omega)
  rw [allP_may (all_take j hm) (by omega)] at e5 f5
  simp only [resA] at e2 e5
  have ql := RB.lenB (bs := framesB (l.take j)) f5.rd
  have tl5 := fun st => told10_run (d + 10) st
  have n1 : ¬ (k : Int) < ((framesB (l.take j)).length : Nat) := by omega
  have n2 : ¬ ((l.length : Nat) : Int) < ((j : Nat) : Int) := by omega
  simp only [Nat.add_assoc, Nat.reduceAdd] at e1 e2 e3 e4 e5 tl5
  by_cases hjl : j < l.length
  · have hme : mayE l[j] = true := by
      rw [List.all_eq_true] at hm
      exact hm _ (List.getElem_mem hjl)
    obtain ⟨w, ix, ld⟩ := RE.atE (re3.gr ho3 (g4.trans f5.gr)) (n := ((j : Nat) : Int)) rfl (List.getElem?_eq_getElem hjl)
    obtain ⟨r, s6, e6, g6, f6⟩ := frame_run (d + 1) f5.gr.wf l[j] (hw _ (List.getElem_mem hjl))
    have hf : frameE l[j] = some (wrapB (putB l[j])) := by simp [frameE, hme]
    rw [hf] at e6
    simp only [resF] at e6
    have rl := (f6 _ hf).rd.lens
    have c5 : ((j : Nat) : Int) < ((l.length : Nat) : Int) := by omega
    have hlt' := hlt hjl
    have hwl := frameE_len hf
    have w2 : IntKind.i64.wrap (((framesB (l.take j)).length : Int) + ((wrapB (putB l[j])).length : Nat)) = (((framesB (l.take j)).length + (wrapB (putB l[j])).length : Nat) : Int) := by rw [wrap_in _ (by omega) (by omega)]; omega
    have n3 : (k : Int) < (((framesB (l.take j)).length + (wrapB (putB l[j])).length : Nat) : Int) := by omega
    simp only [Nat.add_assoc, Nat.reduceAdd] at e6
    refine ⟨s6, ?_⟩
    generalize (((framesB (l.take j)).length + (wrapB (putB l[j])).length : Nat) : Int) = FW at *
    generalize (((framesB (l.take j)).length : Nat) : Int) = FJ at *
    generalize (((wrapB (putB l[j])).length : Nat) : Int) = WJ at *
    generalize (((framesB l).length + 1 : Nat) : Int) = F1 at *
    generalize (((framesB l).length : Nat) : Int) = F0 at *
    generalize ((l.length : Nat) : Int) = LL at *
    generalize ((j : Nat) : Int) = JJ at *
    generalize ((k : Nat) : Int) = KK at *
    generalize ((rowK cut : Nat) : Int) = RK at *
    generalize R (d + 11) = r at *
    simp [e1, e2, aExtract, c1, hll, w1, c2, r1, c3, p1, e3, n1, ul, ol, n2, e4, p2, e5, ql, c5, ix, ld, e6, tl5, rl, w2, n3]
  · have hje : j = l.length := by omega
    have hke := heq hje
    have c5 : ¬ ((j : Nat) : Int) < ((l.length : Nat) : Int) := by omega
    have hfj : (framesB (l.take j)).length = (framesB l).length := by rw [hje, List.take_length]
    rw [hfj] at e3 ql n1
    refine ⟨s5, ?_⟩
    generalize (((framesB l).length + 1 : Nat) : Int) = F1 at *
    generalize (((framesB l).length : Nat) : Int) = F0 at *
    generalize ((l.length : Nat) : Int) = LL at *
    generalize ((j : Nat) : Int) = JJ at *
    generalize ((k : Nat) : Int) = KK at *
    generalize ((rowK cut : Nat) : Int) = RK at *
    generalize R (d + 11) = r at *
    simp [e1, e2, aExtract, c1, hll, w1, c2, r1, c3, p1, e3, n1, ul, ol, n2, e4, p2, e5, ql, c5, tl5]
end
end Go.Proofs.YtlhbidbdmdcdeaaGreatDoor
