/-
  GateNever returns true, whatever its segments, the time and the number. No conditions.
-/
import Derived.Test.YtdnhhakbkinekaaMay
namespace Go.Proofs.Ytdnhhakbkinekaa
open Go Go.Abs Go.Abs.F
set_option linter.unusedVariables false

/-- A slice of numbers of the call's own. -/
def IL (s : St) (x : S) (ids : List Int) : Prop := (x = .nils ∧ ids = []) ∨ ∃ c, x = .sl c 0 ids.length (.grown 1) ∧ ids ≠ [] ∧ s.get c = some (.cells true (ids.map (S.int .i64)))

theorem IL.len {s : St} {x : S} {ids : List Int} (h : IL s x ids) : aLenSl (Z x) = some (I .i64 ids.length) := by
  rcases h with ⟨rfl, rfl⟩ | ⟨c, rfl, _⟩ <;> rfl

theorem IL.gr {s t : St} {x : S} {ids : List Int} (h : IL s x ids) (wf : s.wf) (g : Gr s t) : IL t x ids := by
  rcases h with h | ⟨c, rfl, hne, hc⟩
  · exact .inl h
  · exact .inr ⟨c, rfl, hne, by rw [g.2.2 c (wf.lt hc)]; exact hc⟩

theorem IL.at {s : St} {x : S} {ids : List Int} (h : IL s x ids) {j : Nat} {z : Int} (hj : ids[j]? = some z) : ∃ p, aIndexSl 1 (Z x) (I .i64 j) = some p ∧ aLoad1 p s.get = some (I .i64 z) := by
  have hlt := (List.getElem?_eq_some_iff.1 hj).1
  rcases h with ⟨rfl, rfl⟩ | ⟨c, rfl, _, hc⟩
  · simp at hj
  · exact ⟨Z (.ptr c (0 + j * 1)), aIndexSl_int rfl hlt, by rw [Nat.zero_add, Nat.mul_one]; exact aLoad1_of hc (by rw [List.getElem?_map, hj]; rfl)⟩

section
variable {s t : St} {x y : S}

theorem in_loop (c : CallF) {a b : S} {us bs : List Int} (ha : IL s a us) (hb : IL s b bs) (lb : bs.length ≤ 40) {i : Nat} {z : Int} (hi : us[i]? = some z) :
    loops (f10_l2 c 64) 64 [Z a, Z b, I .i64 i, B false, I .i64 0] s = some (.exit 2 [Z a, Z b, I .i64 i, B (decide (z ∈ bs))], s) := by
  obtain ⟨p, ix, ld⟩ := ha.at hi
  have hlen := hb.len
  obtain ⟨j, t, lp, hj, ht⟩ := loops_inv (f := f10_l2 c 64) (fun k v u => ∃ j : Nat, k + j = bs.length ∧ v = [Z a, Z b, I .i64 i, B (decide (z ∈ bs.take j)), I .i64 j] ∧ u = s) (fun j u => j = .exit 2 [Z a, Z b, I .i64 i, B (decide (z ∈ bs))] ∧ u = s) (by
    rintro k v u ⟨j, hk, rfl, rfl⟩
    by_cases hj : j < bs.length
    · left
      obtain ⟨q, hq⟩ : ∃ q, bs[j]? = some q := ⟨_, List.getElem?_eq_getElem hj⟩
      obtain ⟨p2, ix2, ld2⟩ := hb.at hq
      have hlt : (j : Int) < (bs.length : Int) := by omega
      have w1 : IntKind.i64.wrap ((j : Int) + 1) = (j : Int) + 1 := wrap_in _ (by omega) (by omega)
      have hm : decide (z ∈ bs.take (j + 1)) = (decide (z ∈ bs.take j) || decide (z = q)) := by
        rw [List.take_add_one, hq]
        simp
      refine ⟨[Z a, Z b, I .i64 i, B (decide (z ∈ bs.take (j + 1))), I .i64 ((j : Int) + 1)], u, k - 1, ?_, by omega, j + 1, by omega, by simp, rfl⟩
      rw [hm]
      unfold f10_l2
      generalize decide (z ∈ bs.take j) = e
      cases e with
      | true => simp [hlen, hlt, w1]
      | false => simp [hlen, hlt, ix, ld, ix2, ld2, w1]
    · right
      have hlt : ¬ (j : Int) < (bs.length : Int) := by omega
      refine ⟨_, u, ?_, (fun v hv => by cases hv), rfl, rfl⟩
      rw [List.take_of_length_le (by omega)]
      unfold f10_l2
      simp [hlen, hlt]) 64 bs.length [Z a, Z b, I .i64 i, B false, I .i64 0] s ⟨0, by omega, by simp, rfl⟩ (by omega)
  rw [lp, hj, ht]

theorem within_run (d : Nat) {a b : S} {us bs : List Int} (ha : IL s a us) (hb : IL s b bs) (la : us.length ≤ 40) (lb : bs.length ≤ 40) (hin : ∀ z ∈ us, z ∈ bs) : R (d + 1) 10 [Z a, Z b] s = some (B true, s) := by
  rw [f10_run]
  unfold f10
  have hlen := ha.len
  generalize R d = c
  obtain ⟨j, t, lp, hj, ht⟩ := loops_inv (f := f10_l1 c 64) (fun k v u => ∃ j : Nat, k + j = us.length ∧ v = [Z a, Z b, I .i64 j] ∧ u = s) (fun j u => j = .exit 0 [] ∧ u = s) (by
    rintro k v u ⟨j, hk, rfl, rfl⟩
    by_cases hj : j < us.length
    · left
      obtain ⟨z, hz⟩ : ∃ z, us[j]? = some z := ⟨_, List.getElem?_eq_getElem hj⟩
      have hl := in_loop c ha hb lb hz
      rw [decide_eq_true (hin z (List.mem_of_getElem? hz))] at hl
      have hlt : (j : Int) < (us.length : Int) := by omega
      have w1 : IntKind.i64.wrap ((j : Int) + 1) = (j : Int) + 1 := wrap_in _ (by omega) (by omega)
      refine ⟨[Z a, Z b, I .i64 ((j : Int) + 1)], u, k - 1, ?_, by omega, j + 1, by omega, by simp, rfl⟩
      unfold f10_l1
      simp [hlen, hlt, hl, w1]
    · right
      have hlt : ¬ (j : Int) < (us.length : Int) := by omega
      refine ⟨_, u, ?_, (fun v hv => by cases hv), rfl, rfl⟩
      unfold f10_l1
      simp [hlen, hlt]) 64 us.length [Z a, Z b, I .i64 0] s ⟨0, by omega, by simp, rfl⟩ (by omega)
  subst hj; subst ht
  simp [lp]

theorem sort_run (d : Nat) {ids : List Int} (h : IL s x ids) (hl : ids.length ≤ 100) (wf : s.wf) {z : Nat} (hz : ∀ c, x = .sl c 0 ids.length (.grown 1) → z ≤ c) :
    ∃ t, R (d + 1) 14 [Z x] s = some (.tup [], t) ∧ IL t x (sorted ids) ∧ t.wf ∧ s.size ≤ t.size ∧ ∀ b, b < z → t.get b = s.get b := by
  have hp : ∀ r, sortP 14 [Z x] s = some r → R (d + 1) 14 [Z x] s = some r := fun r hr => runQ_prim ((orP_right rfl).trans ((orP_right rfl).trans hr))
  have hsl : (sorted ids).length = ids.length := (sorted_perm' ids).length_eq
  rcases h with ⟨rfl, rfl⟩ | ⟨c, rfl, hne, hc⟩
  · exact ⟨s, hp _ rfl, .inl ⟨rfl, rfl⟩, wf, Nat.le_refl _, fun _ _ => rfl⟩
  · have hzc := hz c rfl
    refine ⟨s.set c (.cells true ((sorted ids).map (S.int .i64))), hp _ ?_, .inr ⟨c, by rw [hsl], fun e => hne (List.eq_nil_of_length_eq_zero (by rw [← hsl, e]; rfl)), St.get_set_same _ _ _⟩, St.wf_set wf (wf.lt hc) _, by simp, fun b hb => St.get_set_ne _ _ (by omega)⟩
    have h1 : (Nat.ble ids.length (ids.map (S.int .i64)).length && Nat.ble ids.length 100000) = true := by
      rw [Bool.and_eq_true]
      exact ⟨Nat.ble_eq_true_of_le (by simp), Nat.ble_eq_true_of_le (by omega)⟩
    have h2 : intsOf ((ids.map (S.int .i64)).take ids.length) = some ids := by
      rw [List.take_of_length_le (by simp)]
      exact intsOf_map ids
    have h3 : (ids.map (S.int .i64)).drop ids.length = [] := List.drop_of_length_le (by simp)
    unfold sortP
    simp only [hc, h1, h2, h3, List.append_nil]

theorem all_run (d : Nat) {A C : List (List S)} (ha : SR s x A) (hc : SR s y C) (wf : s.wf) (hA : ∀ q ∈ A, Seg q) (hC : ∀ q ∈ C, Seg q) (la : A.length ≤ 30) (lc : C.length ≤ 30) (n : Int) (hn0 : 0 ≤ n) (hn : n < 2 ^ 63) :
    ∃ l t ids, R (d + 6) 8 [defP, I .i64 n, Z x, Z y] s = some (Z l, t) ∧ Gr s t ∧ IL t l ids ∧ ids.length ≤ 30 ∧ (∀ z, z ∈ ids ↔ ∃ r ∈ A, mayGo A C n r = true ∧ num r 0 = z) := by
  rw [f8_run]
  unfold f8
  obtain ⟨s1, hs1⟩ : ∃ s1, s1 = s.push (.cells true [.int .i64 60, .int .i64 600, .int .i64 6000, .int .i64 0, .int .i64 8, .int .i64 30]) := ⟨_, rfl⟩
  have g1 : Gr s s1 := by rw [hs1]; exact Gr.push wf _
  have nw1 : aNew s (nBox defP) = some (Z (.ptr s.size 0), s1) := by simp [aNew, nBox, V.cells, hs1]
  have b1 : s1.get s.size = some (.cells true [.int .i64 60, .int .i64 600, .int .i64 6000, .int .i64 0, .int .i64 8, .int .i64 30]) := by rw [hs1]; exact St.get_push_same _ _
  have hz1 : s1.size = s.size + 1 := by rw [hs1]; rfl
  have hlen := ha.len
  have hmay := fun {u : St} (g : Gr s u) {r : List S} (hr : Seg r) => may_run d (ha.gr wf g) (hc.gr wf g) g.1 hA hC (by omega) (by omega) hr n hn0 hn
  have hsort := fun {u : St} {l : S} {ids : List Int} (h : IL u l ids) (hl : ids.length ≤ 100) (wfu : u.wf) {z : Nat} (hz : ∀ c, l = .sl c 0 ids.length (.grown 1) → z ≤ c) => sort_run (d + 4) h hl wfu hz
  have eqd : d + 4 + 1 = d + 5 := by omega
  rw [eqd] at hsort
  generalize R (d + 5) = c at hmay hsort ⊢
  obtain ⟨j, u, lp, l, ids, rfl, g, hil, hids, hown⟩ := loops_inv (f := f8_l1 c 64) (fun k v u => ∃ (j : Nat) (l : S) (ids : List Int), k + j = A.length ∧ v = [I .i64 n, Z x, Z y, Z (.ptr s.size 0), Z l, Z x, I .i64 A.length, I .i64 j] ∧ Gr s1 u ∧ IL u l ids ∧ ids = ((A.take j).filter (mayGo A C n)).map (fun r => num r 0) ∧ (∀ c, l = .sl c 0 ids.length (.grown 1) → s1.size ≤ c))
    (fun j u => ∃ (l : S) (ids : List Int), j = .exit 0 [Z l] ∧ Gr s1 u ∧ IL u l ids ∧ ids = (A.filter (mayGo A C n)).map (fun r => num r 0) ∧ (∀ c, l = .sl c 0 ids.length (.grown 1) → s1.size ≤ c)) (by
    rintro k v u ⟨j, l, ids, hk, rfl, g, hil, hids, hown⟩
    by_cases hj : j < A.length
    · left
      obtain ⟨r, hr⟩ : ∃ r, A[j]? = some r := ⟨_, List.getElem?_eq_getElem hj⟩
      have hrs := hA r (List.mem_of_getElem? hr)
      have hrl : r.length = 5 := seg_len hA r (List.mem_of_getElem? hr)
      obtain ⟨p, ix, ld⟩ := (ha.gr wf (g1.trans g)).at hA hr
      have hlt : (j : Int) < (A.length : Int) := by omega
      have w1 : IntKind.i64.wrap ((j : Int) + 1) = (j : Int) + 1 := wrap_in _ (by omega) (by omega)
      obtain ⟨u1, hu1⟩ : ∃ u1, u1 = u.push (.cells true [.int .i64 0, .int .i64 0, .int .i64 0, .int .i64 0, .int .u32 0]) := ⟨_, rfl⟩
      have nw2 : aNew u (nCells [.int .i64 0, .int .i64 0, .int .i64 0, .int .i64 0, .int .u32 0]) = some (Z (.ptr u.size 0), u1) := by simp [aNew, nCells, hu1]
      obtain ⟨u2, hu2⟩ : ∃ u2, u2 = u1.set u.size (.cells true r) := ⟨_, rfl⟩
      have b2 : u1.get u.size = some (.cells true [.int .i64 0, .int .i64 0, .int .i64 0, .int .i64 0, .int .u32 0]) := by rw [hu1]; exact St.get_push_same _ _
      have z2 : u2.size = u.size + 1 := by rw [hu2, hu1]; rfl
      have g2 : Gr u u2 := ⟨by rw [hu2]; exact St.wf_set (by rw [hu1]; exact St.wf_push g.1 _) (by rw [hu1]; simp) _, by omega, fun b hb => by rw [hu2, St.get_set_ne _ _ (by omega), hu1, St.get_push_ne _ _ (by omega)]⟩
      have st2 : aStore 5 (Z (.ptr u.size 0)) (.v (.agg r)) u1 = some (tt, u2) := by
        have : setRange [S.int .i64 0, .int .i64 0, .int .i64 0, .int .i64 0, .int .u32 0] 0 r = r := by
          rw [setRange_eq _ _ _ (by simp [hrl])]
          simp [hrl]
        simp only [aStore, b2, V.cells, hrl, this]
        rw [hu2]
        rfl
      have b3 : u2.get u.size = some (.cells true r) := by rw [hu2]; exact St.get_set_same _ _ _
      have ld2 : aLoadN 5 (Z (.ptr u.size 0)) u2.get = some (.v (.agg r)) := by
        simp only [aLoadN, b3, hrl]
        simp [List.take_of_length_le, hrl]
      have ldp : aLoadN 6 (Z (.ptr s.size 0)) u2.get = some defP := by
        have : u2.get s.size = some (.cells true [.int .i64 60, .int .i64 600, .int .i64 6000, .int .i64 0, .int .i64 8, .int .i64 30]) := by
          have := g.2.1
          rw [g2.2.2 _ (by omega), g.2.2 _ (by omega)]
          exact b1
        simp [aLoadN, this]
      obtain ⟨u3, e3, g3⟩ := hmay ((g1.trans g).trans g2) hrs
      have g13 := (g.trans g2).trans g3
      have htk : ((A.take (j + 1)).filter (mayGo A C n)).map (fun r => num r 0) = ids ++ (if mayGo A C n r = true then [num r 0] else []) := by
        rw [List.take_add_one, hr, List.filter_append, List.map_append, ← hids]
        congr 1
        cases hm : mayGo A C n r <;> simp [hm]
      cases hm : mayGo A C n r with
      | false =>
        rw [hm] at e3 htk
        refine ⟨[I .i64 n, Z x, Z y, Z (.ptr s.size 0), Z l, Z x, I .i64 A.length, I .i64 ((j : Int) + 1)], u3, k - 1, ?_, by omega, j + 1, l, ids, by omega, by simp, g13, (hil.gr g.1 (g2.trans g3)), by rw [htk]; simp, hown⟩
        unfold f8_l1
        simp [hlt, ix, ld, nw2, st2, ld2, ldp, e3, w1]
      | true =>
        rw [hm] at e3 htk
        have b4 : u3.get u.size = some (.cells true r) := by rw [g3.2.2 _ (by omega)]; exact b3
        have l0 : aLoad1 (Z (.ptr u.size 0)) u3.get = some (I .i64 (num r 0)) := by
          obtain ⟨a, b, c, dd, ee, rfl, _⟩ := hrs
          exact aLoad1_of b4 rfl
        obtain ⟨u4, hu4⟩ : ∃ u4, u4 = u3.push (.cells true [.int .i64 (num r 0)]) := ⟨_, rfl⟩
        have g4 : Gr u3 u4 := by rw [hu4]; exact Gr.push g3.1 _
        have nw4 : aNew u3 (nSlice 1 (aFill [.int .i64 0] [(0, 1, I .i64 (num r 0))])) = some (Z (.sl u3.size 0 1 (.known 1)), u4) := by simp [aNew, nSlice, aFill, V.cells, setRange, hu4]
        have b5 : u4.get u3.size = some (.cells true [.int .i64 (num r 0)]) := by rw [hu4]; exact St.get_push_same _ _
        have hil4 : IL u4 l ids := (hil.gr g.1 (g2.trans g3)).gr g3.1 g4
        have hidl : ids.length ≤ 30 := by
          rw [hids, List.length_map]
          exact Nat.le_trans (List.length_filter_le _ _) (by rw [List.length_take]; omega)
        have ap : ∃ u5, aAppend 1 8 (Z l) (Z (.sl u3.size 0 1 (.known 1))) u4 = some (Z (.sl u4.size 0 (ids.length + 1) (.grown 1)), u5) ∧ u5.wf ∧ u4.size ≤ u5.size ∧ u5.get u4.size = some (.cells true ((ids ++ [num r 0]).map (S.int .i64))) ∧ ∀ b, b < s1.size → u5.get b = u4.get b := by
          have hs4 : s1.size ≤ u4.size := by have := g13.2.1; have := g4.2.1; omega
          rcases hil4 with ⟨rfl, rfl⟩ | ⟨c0, rfl, hne, hc0⟩
          · refine ⟨u4.push (.cells true [.int .i64 (num r 0)]), ?_, St.wf_push g4.1 _, by simp, by rw [St.get_push_same]; rfl, fun b hb => St.get_push_ne _ _ (by omega)⟩
            simp [aAppend, aSrc, b5]
          · have hc1 := g4.1.lt hc0
            have hcs := hown c0 rfl
            have hg := St.get_push_same (u4.set c0 .dead) (.cells true ((ids ++ [num r 0]).map (S.int .i64)))
            rw [St.size_set] at hg
            refine ⟨(u4.set c0 .dead).push (.cells true ((ids ++ [num r 0]).map (S.int .i64))), ?_, St.wf_push (St.wf_set g4.1 hc1 _) _, by simp, hg, fun b hb => by rw [St.get_push_ne _ _ (by rw [St.size_set]; omega), St.get_set_ne _ _ (by omega)]⟩
            have hbig : (ids.length + 1) * 8 ≤ 140737488355328 := by omega
            have hfull : ¬ ids.length + 1 ≤ ids.length := by omega
            simp [aAppend, aSrc, b5, hc0, hbig, List.take_of_length_le]
            intro hh
            omega
        obtain ⟨u5, ap1, f5, z5, b6, k5⟩ := ap
        have g15 : Gr s1 u5 := ⟨f5, by have := g13.2.1; have := g4.2.1; omega, fun b hb => by rw [k5 b hb, g4.2.2 b (by have := g13.2.1; omega), g13.2.2 b hb]⟩
        refine ⟨[I .i64 n, Z x, Z y, Z (.ptr s.size 0), Z (.sl u4.size 0 (ids.length + 1) (.grown 1)), Z x, I .i64 A.length, I .i64 ((j : Int) + 1)], u5, k - 1, ?_, by omega, j + 1, .sl u4.size 0 (ids.length + 1) (.grown 1), ids ++ [num r 0], by omega, by simp, g15, .inr ⟨u4.size, by simp, by simp, b6⟩, by rw [htk]; simp, fun c hc => ?_⟩
        · unfold f8_l1
          simp [hlt, ix, ld, nw2, st2, ld2, ldp, e3, l0, nw4, ap1, w1]
        · simp at hc
          have := g13.2.1; have := g4.2.1
          omega
    · right
      have hlt : ¬ (j : Int) < (A.length : Int) := by omega
      have htk : A.take j = A := List.take_of_length_le (by omega)
      rw [htk] at hids
      refine ⟨_, u, ?_, (fun v hv => by cases hv), l, ids, rfl, g, hil, hids, hown⟩
      unfold f8_l1
      simp [hlt]) 64 A.length [I .i64 n, Z x, Z y, Z (.ptr s.size 0), Z .nils, Z x, I .i64 A.length, I .i64 0] s1 ⟨0, .nils, [], by omega, by simp, Gr.refl g1.1, .inl ⟨rfl, rfl⟩, by simp, fun c hc => by cases hc⟩ (by omega)
  have hidl : ids.length ≤ 30 := by
    rw [hids, List.length_map]
    exact Nat.le_trans (List.length_filter_le _ _) la
  obtain ⟨t, e14, hilt, ft, zt, kt⟩ := hsort hil (by omega) g.1 hown
  refine ⟨l, t, sorted ids, by simp [nw1, hlen, lp, e14], ⟨ft, by have := g1.2.1; have := g.2.1; omega, fun b hb => by rw [kt b (by have := g1.2.1; omega), g.2.2 b (by have := g1.2.1; omega), g1.2.2 b hb]⟩, hilt, by rw [(sorted_perm' ids).length_eq]; exact hidl, fun z => ?_⟩
  rw [(sorted_perm' ids).mem_iff, hids]
  simp only [List.mem_map, List.mem_filter]
  constructor
  · rintro ⟨r, ⟨h1, h2⟩, h3⟩
    exact ⟨r, h1, h2, h3⟩
  · rintro ⟨r, h1, h2, h3⟩
    exact ⟨r, ⟨h1, h2⟩, h3⟩

theorem old_mono {r : List S} {n m : Int} (h : n ≤ m) (ho : old r n = true) : old r m = true := by
  simp only [old, decide_eq_true_eq] at ho ⊢
  omega

theorem rolled_mono {C D : List (List S)} (h : ∀ q ∈ C, q ∈ D) {r : List S} (ho : rolled C r = true) : rolled D r = true := by
  simp only [rolled, Bool.or_eq_true, decide_eq_true_eq, List.any_eq_true] at ho ⊢
  rcases ho with ho | ⟨q, hq, hu⟩
  · exact .inl ho
  · exact .inr ⟨q, h q hq, hu⟩

theorem may_time {A C : List (List S)} {n m : Int} (h : n ≤ m) {r : List S} (hm : mayGo A C n r = true) : mayGo A C m r = true := by
  simp only [mayGo, Bool.and_eq_true] at hm ⊢
  obtain ⟨⟨⟨⟨h1, h2⟩, h3⟩, h4⟩, h5⟩ := hm
  exact ⟨⟨⟨⟨old_mono h h1, h2⟩, h3⟩, h4⟩, h5⟩

theorem may_less {A C D : List (List S)} (h : ∀ q ∈ C, q ∈ D) {n : Int} {r : List S} (hm : mayGo A C n r = true) : mayGo A D n r = true := by
  simp only [mayGo, Bool.and_eq_true, decide_eq_true_eq] at hm ⊢
  obtain ⟨⟨⟨⟨h1, h2⟩, h3⟩, h4⟩, h5⟩ := hm
  exact ⟨⟨⟨⟨h1, h2⟩, h r h3⟩, h4⟩, rolled_mono h h5⟩

/-- A slice of segments of the call's own. -/
def CL (s : St) (z : Nat) (x : S) (rows : List (List S)) : Prop := (x = .nils ∧ rows = []) ∨ ∃ c, x = .sl c 0 rows.length (.grown 5) ∧ z ≤ c ∧ s.get c = some (.cells true rows.flatten)

theorem CL.sr {s : St} {z : Nat} {x : S} {rows : List (List S)} (h : CL s z x rows) : SR s x rows := by
  rcases h with ⟨rfl, rfl⟩ | ⟨c, rfl, _, hc⟩
  · exact .inl ⟨rfl, .inl rfl⟩
  · exact .inr ⟨c, _, _, rfl, hc⟩

theorem flat_len {rows : List (List S)} (hs : ∀ q ∈ rows, Seg q) : rows.flatten.length = rows.length * 5 := by
  induction rows with
  | nil => rfl
  | cons r l ih =>
    rw [List.flatten_cons, List.length_append, ih fun q hq => hs q (List.mem_cons_of_mem _ hq), seg_len hs r List.mem_cons_self, List.length_cons]
    omega

theorem less_loop (c : CallF) {a p l1 l2 : T} {bx : S} {now : Int} {which : Int} {Bs : List (List S)} {s0 : St} (hb : SR s0 bx Bs) (wf : s0.wf) (hB : ∀ q ∈ Bs, Seg q) (lb : Bs.length ≤ 30) :
    ∃ cx Cs t, loops (f4_l1 c 64) 64 [a, Z bx, I .i64 now, I .i64 which, p, l1, l2, Z .nils, I .i64 0] s0 = some (.exit 0 [a, I .i64 now, p, l1, l2, Z cx], t) ∧ Gr s0 t ∧ SR t cx Cs ∧ (∀ q ∈ Cs, q ∈ Bs) ∧ Cs.length ≤ 30 := by
  have hlen := hb.len
  obtain ⟨j, t, lp, cx, Cs, hj, g, hcl, hsub, hl⟩ := loops_inv (f := f4_l1 c 64) (fun k v u => ∃ (j : Nat) (cx : S) (Cs : List (List S)), k + j = Bs.length ∧ v = [a, Z bx, I .i64 now, I .i64 which, p, l1, l2, Z cx, I .i64 j] ∧ Gr s0 u ∧ CL u s0.size cx Cs ∧ (∀ q ∈ Cs, q ∈ Bs) ∧ Cs.length ≤ j)
    (fun j u => ∃ (cx : S) (Cs : List (List S)), j = .exit 0 [a, I .i64 now, p, l1, l2, Z cx] ∧ Gr s0 u ∧ CL u s0.size cx Cs ∧ (∀ q ∈ Cs, q ∈ Bs) ∧ Cs.length ≤ 30) (by
    rintro k v u ⟨j, cx, Cs, hk, rfl, g, hcl, hsub, hl⟩
    by_cases hj : j < Bs.length
    · left
      obtain ⟨r, hr⟩ : ∃ r, Bs[j]? = some r := ⟨_, List.getElem?_eq_getElem hj⟩
      have hrm := List.mem_of_getElem? hr
      have hrl : r.length = 5 := seg_len hB r hrm
      obtain ⟨q, ix, ld⟩ := (hb.gr wf g).at hB hr
      have hlt : (j : Int) < (Bs.length : Int) := by omega
      have hpos : 0 < Bs.length := by omega
      have w1 : IntKind.i64.wrap ((j : Int) + 1) = (j : Int) + 1 := wrap_in _ (by omega) (by omega)
      have w2 : IntKind.u64.wrap (Bs.length : Int) = (Bs.length : Int) := wrap_u64_in _ (by omega) (by omega)
      obtain ⟨y, hy0, hy1, hy, hy', _⟩ := mod_u which (Bs.length : Int) (by omega) (by omega)
      by_cases hjy : (j : Int) = y
      · refine ⟨[a, Z bx, I .i64 now, I .i64 which, p, l1, l2, Z cx, I .i64 ((j : Int) + 1)], u, k - 1, ?_, by omega, j + 1, cx, Cs, by omega, by simp, g, hcl, hsub, by omega⟩
        subst hjy
        unfold f4_l1
        simp [hlen, hlt, hpos, w2, hy, hy', w1]
      · obtain ⟨u1, hu1⟩ : ∃ u1, u1 = u.push (.cells true r) := ⟨_, rfl⟩
        have g1 : Gr u u1 := by rw [hu1]; exact Gr.push g.1 _
        have hz1 : u1.size = u.size + 1 := by rw [hu1]; rfl
        have fill : aFill [S.int .i64 0, .int .i64 0, .int .i64 0, .int .i64 0, .int .u32 0] [(0, 5, .v (.agg r))] = some r := by
          have : setRange [S.int .i64 0, .int .i64 0, .int .i64 0, .int .i64 0, .int .u32 0] 0 r = r := by
            rw [setRange_eq _ _ _ (by simp [hrl])]
            simp [hrl]
          simp [aFill, V.cells, hrl, this]
        have nw : aNew u (nSlice 1 (aFill [.int .i64 0, .int .i64 0, .int .i64 0, .int .i64 0, .int .u32 0] [(0, 5, .v (.agg r))])) = some (Z (.sl u.size 0 1 (.known 1)), u1) := by
          rw [fill]
          simp [aNew, nSlice, hu1]
        have b1 : u1.get u.size = some (.cells true r) := by rw [hu1]; exact St.get_push_same _ _
        have hfl := flat_len (rows := Cs) fun q hq => hB q (hsub q hq)
        have hs0 := g.2.1
        have ap : ∃ u2, aAppend 5 40 (Z cx) (Z (.sl u.size 0 1 (.known 1))) u1 = some (Z (.sl u1.size 0 (Cs.length + 1) (.grown 5)), u2) ∧ u2.wf ∧ u1.size ≤ u2.size ∧ u2.get u1.size = some (.cells true (Cs ++ [r]).flatten) ∧ ∀ b, b < s0.size → u2.get b = u1.get b := by
          rcases hcl with ⟨rfl, rfl⟩ | ⟨c0, rfl, hz, hc0⟩
          · refine ⟨u1.push (.cells true r), ?_, St.wf_push g1.1 _, by simp, by rw [St.get_push_same]; simp, fun b hb => St.get_push_ne _ _ (by omega)⟩
            simp [aAppend, aSrc, b1, hrl, List.take_of_length_le]
          · have hc1 := g.1.lt hc0
            have hc01 : u1.get c0 = some (.cells true Cs.flatten) := by rw [g1.2.2 c0 hc1]; exact hc0
            have hg := St.get_push_same (u1.set c0 .dead) (.cells true (Cs ++ [r]).flatten)
            rw [St.size_set] at hg
            refine ⟨(u1.set c0 .dead).push (.cells true (Cs ++ [r]).flatten), ?_, St.wf_push (St.wf_set g1.1 (by omega) _) _, by simp, hg, fun b hb => by rw [St.get_push_ne _ _ (by rw [St.size_set]; omega), St.get_set_ne _ _ (by omega)]⟩
            have hbig : (Cs.length + 1) * 40 ≤ 140737488355328 := by omega
            have hfull : ¬ (Cs.length + 1) * 5 ≤ Cs.flatten.length := by omega
            have hle : Cs.length * 5 ≤ Cs.flatten.length := by omega
            have htk : Cs.flatten.take (Cs.length * 5) = Cs.flatten := List.take_of_length_le (by omega)
            have htr : r.take 5 = r := List.take_of_length_le (by omega)
            unfold aAppend
            have hsrc : aSrc 5 (Z (.sl u.size 0 1 (.known 1))) u1.get = some (1, r) := by simp [aSrc, b1, hrl, htr]
            rw [hsrc]
            dsimp only
            rw [if_neg (by decide), if_pos ⟨rfl, hbig⟩, if_neg (by decide), hc01]
            dsimp only
            rw [if_neg (by omega), if_pos (by omega), List.drop_zero, htk]
            simp
        obtain ⟨u2, ap1, f2, z2, b2, k2⟩ := ap
        refine ⟨[a, Z bx, I .i64 now, I .i64 which, p, l1, l2, Z (.sl u1.size 0 (Cs.length + 1) (.grown 5)), I .i64 ((j : Int) + 1)], u2, k - 1, ?_, by omega, j + 1, .sl u1.size 0 (Cs.length + 1) (.grown 5), Cs ++ [r], by omega, by simp, ⟨f2, by omega, fun b hb => by rw [k2 b hb, g1.2.2 b (by omega), g.2.2 b hb]⟩, .inr ⟨u1.size, by simp, by omega, b2⟩, fun q hq => ?_, by simp; omega⟩
        · unfold f4_l1
          simp [hlen, hlt, hpos, w2, hy, hy', hjy, ix, ld, nw, ap1, w1]
        · rcases List.mem_append.1 hq with h | h
          · exact hsub q h
          · simp at h
            rw [h]
            exact hrm
    · right
      have hlt : ¬ (j : Int) < (Bs.length : Int) := by omega
      refine ⟨_, u, ?_, (fun v hv => by cases hv), cx, Cs, rfl, g, hcl, hsub, by omega⟩
      unfold f4_l1
      simp [hlen, hlt]) 64 Bs.length [a, Z bx, I .i64 now, I .i64 which, p, l1, l2, Z .nils, I .i64 0] s0 ⟨0, .nils, [], by omega, by simp, Gr.refl wf, .inl ⟨rfl, rfl⟩, by simp, by simp⟩ (by omega)
  exact ⟨cx, Cs, t, by rw [lp, hj], g, hcl.sr, hsub, hl⟩

theorem told_run' (d : Nat) (s : St) : R (d + 1) 9 [] s = some (B true, s) := told_run d s

theorem never_run (s0 : St) (wf : s0.wf) {a b : S} {A C : List (List S)} (ha : SR s0 a A) (hc : SR s0 b C) (hA : ∀ q ∈ A, Seg q) (hC : ∀ q ∈ C, Seg q) (now which : Int) (hnow : now < 2 ^ 63) : ∃ τ, R 7 4 [Z a, Z b, I .i64 now, I .i64 which] s0 = some (B true, τ) := by
  rw [f4_run]
  unfold f4
  have lla := ha.len
  have llc := hc.len
  by_cases hout : 30 < A.length ∨ 30 < C.length ∨ now < 0
  · have e6 := told_run 5 s0
    simp only [Nat.reduceAdd] at e6
    generalize R 6 = r at e6 ⊢
    refine ⟨s0, ?_⟩
    by_cases h1 : (30 : Int) < A.length
    · simp [lla, llc, h1, e6]
    · by_cases h2 : (30 : Int) < C.length
      · simp [lla, llc, h1, h2, e6]
      · have h3 : now < 0 := by omega
        simp [lla, llc, h1, h2, h3, e6]
  · have c1 : ¬ (30 : Int) < A.length := by omega
    have c2 : ¬ (30 : Int) < C.length := by omega
    have c3 : ¬ now < 0 := by omega
    have e1 := default_run 5 s0
    obtain ⟨s1, hs1⟩ : ∃ s1, s1 = s0.push (.cells true [.int .i64 0, .int .i64 0, .int .i64 0, .int .i64 0, .int .i64 0, .int .i64 0]) := ⟨_, rfl⟩
    have nw : aNew s0 (nCells [.int .i64 0, .int .i64 0, .int .i64 0, .int .i64 0, .int .i64 0, .int .i64 0]) = some (Z (.ptr s0.size 0), s1) := by simp [aNew, nCells, hs1]
    obtain ⟨s2, hs2⟩ : ∃ s2, s2 = s1.set s0.size (.cells true [.int .i64 60, .int .i64 600, .int .i64 6000, .int .i64 0, .int .i64 8, .int .i64 30]) := ⟨_, rfl⟩
    have b1 : s1.get s0.size = some (.cells true [.int .i64 0, .int .i64 0, .int .i64 0, .int .i64 0, .int .i64 0, .int .i64 0]) := by rw [hs1]; exact St.get_push_same _ _
    have st : aStore 6 (Z (.ptr s0.size 0)) defP s1 = some (tt, s2) := by simp [aStore, b1, V.cells, setRange, hs2]
    have g2 : Gr s0 s2 := ⟨by rw [hs2]; exact St.wf_set (by rw [hs1]; exact St.wf_push wf _) (by rw [hs1]; simp) _, by rw [hs2, hs1]; simp, fun b hb => by rw [hs2, St.get_set_ne _ _ (by omega), hs1, St.get_push_ne _ _ (by omega)]⟩
    have b2 : s2.get s0.size = some (.cells true [.int .i64 60, .int .i64 600, .int .i64 6000, .int .i64 0, .int .i64 8, .int .i64 30]) := by rw [hs2]; exact St.get_set_same _ _ _
    have ld : ∀ {u : St}, Gr s2 u → aLoadN 6 (Z (.ptr s0.size 0)) u.get = some defP := fun {u} g => by
      have : u.get s0.size = some (.cells true [.int .i64 60, .int .i64 600, .int .i64 6000, .int .i64 0, .int .i64 8, .int .i64 30]) := by rw [g.2.2 _ (g2.1.lt b2)]; exact b2
      simp [aLoadN, this]
    have ld2 := ld (Gr.refl g2.1)
    obtain ⟨x1, s3, i1, e3, g3, il1, n1, m1⟩ := all_run 0 (ha.gr wf g2) (hc.gr wf g2) g2.1 hA hC (by omega) (by omega) now (by omega) hnow
    have ld3 := ld g3
    have hhalf : now.tdiv 2 = now / 2 := Int.tdiv_eq_ediv_of_nonneg (by omega)
    have wq : IntKind.i64.wrap (now.tdiv 2) = now / 2 := by rw [hhalf]; exact wrap_in _ (by omega) (by omega)
    have hquo : aBin .quo (I .i64 now) (I .i64 2) = some (I .i64 (now / 2)) := by rw [quo_int _ _ _ (by omega), wq]
    have g23 := g2.trans g3
    obtain ⟨x2, s4, i2, e4, g4, il2, n2, m2⟩ := all_run 0 (ha.gr wf g23) (hc.gr wf g23) g23.1 hA hC (by omega) (by omega) (now / 2) (by omega) (by omega)
    have g24 := g23.trans g4
    obtain ⟨cx, Cs, s5, lp, g5, hcs, hsub, lc⟩ := less_loop (R 6) (a := Z a) (p := Z (.ptr s0.size 0)) (l1 := Z x1) (l2 := Z x2) (now := now) (which := which) (hc.gr wf g24) g24.1 hC (by omega)
    have g25 := g24.trans g5
    have ld5 := ld ((g3.trans g4).trans g5)
    obtain ⟨x3, s6, i3, e6, g6, il3, n3, m3⟩ := all_run 0 (ha.gr wf g25) hcs g25.1 hA (fun q hq => hC q (hsub q hq)) (by omega) lc now (by omega) hnow
    have g26 := g25.trans g6
    have e7 := told_run 5 s6
    have il1' : IL s6 x1 i1 := ((il1.gr g3.1 g4).gr g4.1 g5).gr g5.1 g6
    have il2' : IL s6 x2 i2 := (il2.gr g4.1 g5).gr g5.1 g6
    have w1 := within_run 5 il2' il1' (by omega) (by omega) fun z hz => by
      obtain ⟨r, h1, h2, h3⟩ := (m2 z).1 hz
      exact (m1 z).2 ⟨r, h1, may_time (by omega) h2, h3⟩
    have w2 := within_run 5 il3 il1' (by omega) (by omega) fun z hz => by
      obtain ⟨r, h1, h2, h3⟩ := (m3 z).1 hz
      exact (m1 z).2 ⟨r, h1, may_less hsub h2, h3⟩
    have ld6 := ld (((g3.trans g4).trans g5).trans g6)
    obtain ⟨x4, s7, i4, e8, g8, il4, n4, m4⟩ := all_run 0 (y := .nils) (C := []) (ha.gr wf g26) (.inl ⟨rfl, .inl rfl⟩) g26.1 hA (by simp) (by omega) (by simp) now (by omega) hnow
    have hi4 : i4 = [] := by
      cases i4 with
      | nil => rfl
      | cons z l =>
        obtain ⟨r, _, h2, _⟩ := (m4 z).1 List.mem_cons_self
        simp [mayGo] at h2
    have hl4 := il4.len
    rw [hi4] at hl4
    have hl4' : aLenSl (Z x4) = some (I .i64 0) := hl4
    simp only [Nat.reduceAdd] at e1 e3 e4 e6 e7 w1 w2 e8
    generalize R 6 = r at e1 e3 e4 lp e6 e7 w1 w2 e8 ⊢
    refine ⟨s7, ?_⟩
    simp [lla, llc, c1, c2, c3, e1, nw, st, ld2, e3, ld3, hquo, e4, lp, ld5, e6, e7, w1, w2, ld6, e8, hl4']
end

theorem seg_of {r : List S} (h : All2 KS [.int .i64, .int .i64, .int .i64, .int .i64, .int .u32] r) : Seg r := by
  obtain ⟨ns, hn, hl, hw⟩ := ints_of (ks := [.i64, .i64, .i64, .i64, .u32]) h
  match ns, hl with
  | [a, b, c, d, e], _ =>
    have := hw 3 .i64 d rfl rfl
    simp [Lit.wf, IntKind.min, IntKind.max, IntKind.signed, IntKind.bits] at this
    exact ⟨a, b, c, d, e, hn, by omega, by omega⟩

theorem sr_of {s : St} {a : T} {c : Nat} {rows : List (List S)} (h : SlOf a c rows) (hs : ∀ q ∈ rows, Seg q) (hg : s.get c = some (argBlk rows.flatten)) : ∃ x, a = Z x ∧ SR s x rows := by
  rcases h with ⟨rfl, rfl⟩ | ⟨cap, _, rfl⟩
  · exact ⟨_, rfl, .inl ⟨rfl, .inl rfl⟩⟩
  · refine ⟨_, rfl, ?_⟩
    cases rows with
    | nil => exact .inl ⟨rfl, .inr ⟨c, 0, _, rfl⟩⟩
    | cons r l =>
      obtain ⟨a, b, c', d, e, rfl, _⟩ := hs r List.mem_cons_self
      exact .inr ⟨c, _, false, rfl, hg⟩
end Go.Proofs.Ytdnhhakbkinekaa
