/-
  What stands for Names in our runs is what Names does. No conditions.
-/
import Derived.Test.YtgecidicpdobfaaDoorKeys
import Derived.Test.YtgecidicpdobfaaDoorWalk
namespace Go.Proofs.YtgecidicpdobfaaDoor
open Go Go.Abs Go.Abs.F
open Go.WideElems (Fit rd rg)
set_option linter.unusedVariables false

theorem lexLe_iff : ∀ a b : List UInt8, lexLe a b = true ↔ a ≤ b
  | [], b => by simp [lexLe]
  | x :: r, [] => by simp [lexLe]
  | x :: r, y :: t => by
    rw [List.cons_le_cons_iff, ← lexLe_iff r t]
    have hb : ∀ a b : Nat, Nat.blt a b = decide (a < b) := fun a b => by
      by_cases h : a < b
      · rw [decide_eq_true h]; simpa using h
      · rw [decide_eq_false h, ← Bool.not_eq_true]; simpa using h
    have he : ∀ a b : Nat, Nat.beq a b = decide (a = b) := fun a b => by
      by_cases h : a = b
      · rw [decide_eq_true h]; subst h; exact Nat.beq_refl a
      · rw [decide_eq_false h, ← Bool.not_eq_true]; exact fun e => h (Nat.eq_of_beq_eq_true e)
    rw [lexLe, hb, he]
    by_cases h : x.toNat < y.toNat
    · simp only [decide_eq_true h, true_iff]
      exact .inl (UInt8.lt_iff_toNat_lt.2 h)
    · have h2 : ¬ x < y := fun e => h (UInt8.lt_iff_toNat_lt.1 e)
      simp only [decide_eq_false h]
      by_cases e : x.toNat = y.toNat
      · have h4 : x = y := UInt8.toNat.inj e
        simp [h2, h4]
      · have h4 : x ≠ y := fun e' => e (by rw [e'])
        simp [e, h2, h4]

theorem keysOf_facts : ∀ {es : List (S × V)} {ks : List (List UInt8)}, keysOf es = some ks → es.map (·.1) = ks.map S.str ∧ ks.Nodup ∧ ∀ n ∈ ks, n.length ≤ 1000 := by
  intro es
  induction es with
  | nil => intro ks h; cases h; exact ⟨rfl, .nil, fun n hn => by cases hn⟩
  | cons p r ih =>
    intro ks h
    obtain ⟨k, v⟩ := p
    unfold keysOf at h
    split at h
    · rename_i heq; cases heq
    · rename_i n v' r' heq
      cases heq
      split at h
      · rename_i l hl
        split at h
        · rename_i hw
          cases h
          obtain ⟨h1, h2, h3⟩ := ih hl
          rw [Bool.and_eq_true] at hw
          have hn : n ∉ l := by simpa using hw.2
          refine ⟨by simp [h1], List.nodup_cons.2 ⟨hn, h2⟩, fun m hm => ?_⟩
          rcases List.mem_cons.1 hm with rfl | hm
          · exact Nat.le_of_ble_eq_true hw.1
          · exact h3 m hm
        · cases h
      · cases h
    · cases h

theorem put_perm (n : List UInt8) : ∀ l : List (List UInt8), (put n l).Perm (n :: l)
  | [] => .refl _
  | m :: r => by
    unfold put
    cases lexLe n m with
    | true => exact .refl _
    | false => exact ((put_perm n r).cons m).trans (.swap n m r)

theorem put_sorted (n : List UInt8) : ∀ l : List (List UInt8), l.Pairwise (· ≤ ·) → (put n l).Pairwise (· ≤ ·)
  | [], _ => List.pairwise_singleton _ _
  | m :: r, h => by
    unfold put
    cases hd : lexLe n m with
    | true =>
      have hd' := (lexLe_iff n m).1 hd
      refine List.pairwise_cons.2 ⟨fun x hx => ?_, h⟩
      rcases List.mem_cons.1 hx with rfl | hx
      · exact hd'
      · exact List.le_trans hd' ((List.pairwise_cons.1 h).1 x hx)
    | false =>
      have hd' : m ≤ n := by
        rcases List.le_total m n with h | h
        · exact h
        · rw [(lexLe_iff n m).2 h] at hd; cases hd
      refine List.pairwise_cons.2 ⟨fun x hx => ?_, put_sorted n r (List.pairwise_cons.1 h).2⟩
      rcases List.mem_cons.1 ((put_perm n r).mem_iff.1 hx) with rfl | hx
      · exact hd'
      · exact (List.pairwise_cons.1 h).1 x hx

theorem sorted_perm' : ∀ l : List (List UInt8), (sorted l).Perm l
  | [] => .refl _
  | n :: r => (put_perm n _).trans ((sorted_perm' r).cons n)

theorem sorted_sorted : ∀ l : List (List UInt8), (sorted l).Pairwise (· ≤ ·)
  | [] => .nil
  | n :: r => put_sorted n _ (sorted_sorted r)

theorem sorted_merge (l : List (List UInt8)) : l.mergeSort (fun x y => decide (x ≤ y)) = sorted l := by
  have h1 : (l.mergeSort (fun x y => decide (x ≤ y))).Perm (sorted l) := (List.mergeSort_perm _ _).trans (sorted_perm' l).symm
  have h2 : (l.mergeSort (fun x y => decide (x ≤ y))).Pairwise (· ≤ ·) := by
    have := List.pairwise_mergeSort (le := fun x y : List UInt8 => decide (x ≤ y)) (by intro a b c; simp only [decide_eq_true_eq]; exact List.le_trans) (by intro a b; simp only [Bool.or_eq_true, decide_eq_true_eq]; exact List.le_total a b) l
    exact this.imp fun h => by simpa using h
  exact h1.eq_of_pairwise (fun a b _ _ h h' => List.le_antisymm h h') h2 (sorted_sorted l)

theorem names_shape {f : FuncId} {ts : List T} {σ τ : St} {t : T} (h : namesP f ts σ = some (t, τ)) :
    f = 33 ∧ ∃ i o own vs m es ks, ts = [Z (.ptr i o)] ∧ σ.get i = some (.cells own vs) ∧ vs[o + 1]? = some (.map m) ∧ σ.get m = some (.map es) ∧ es.length ≤ 1000 ∧ keysOf es = some ks ∧
      ((ks = [] ∧ t = Z .nils ∧ τ = σ) ∨ (ks ≠ [] ∧ t = Z (.sl σ.size 0 ks.length (.grown 1)) ∧ τ = σ.push (.cells true ((sorted ks).map S.str)))) := by
  unfold namesP at h
  split at h
  · cases h
  · rename_i hf
    refine ⟨Nat.eq_of_beq_eq_true hf, ?_⟩
    split at h
    · rename_i i o
      split at h
      · rename_i own vs hi
        split at h
        · rename_i m hm
          split at h
          · rename_i es hes
            split at h
            · rename_i hl hk
              cases h
              exact ⟨i, o, own, vs, m, es, _, rfl, hi, hm, hes, Nat.le_of_ble_eq_true hl, hk, .inl ⟨rfl, rfl, rfl⟩⟩
            · rename_i k l hl hk
              cases h
              exact ⟨i, o, own, vs, m, es, _, rfl, hi, hm, hes, Nat.le_of_ble_eq_true hl, hk, .inr ⟨by simp, rfl, rfl⟩⟩
            · cases h
          · cases h
        · cases h
      · cases h
    · cases h

/-- A map's block as the kit speaks of it. -/
theorem owns_map {ι : Inj} {w : World} {L : Abs.Loc} {es : List (S × V)} {ks : List (List UInt8)} (hb : BlkRel ι L w (.map es)) (hk : keysOf es = some ks) (hl : es.length ≤ 1000) :
    ∃ D0 : DataW Unit, w.ownsMap Tryd.prog 9 (fun _ => some (.nil, [])) L.b 1000 D0 ∧ (strKeys D0).Perm ks ∧ Maps.size D0 ≤ 1000 := by
  obtain ⟨mes, clk, h1, h2, h3, h4⟩ := hb
  obtain ⟨k1, k2, k3⟩ := keysOf_facts hk
  have hlen : mes.size = es.length := by rw [← Array.length_toList, ← forall2_length h2]
  have hkeys : mes.toList.map (·.key) = ks.map encStr := by
    have : ∀ {es : List (S × V)} {l : List MapEntry} {ks : List (List UInt8)}, All2 (EntRel ι) es l → es.map (·.1) = ks.map S.str → l.map (·.key) = ks.map encStr := by
      intro es l ks h
      induction h generalizing ks with
      | nil => intro e; cases ks with
        | nil => rfl
        | cons _ _ => simp at e
      | cons a b ih =>
        intro e
        cases ks with
        | nil => simp at e
        | cons k ks =>
          simp only [List.map_cons, List.cons.injEq] at e ⊢
          refine ⟨?_, ih e.2⟩
          have := a.1
          rw [e.1] at this
          obtain ⟨s, hs, hl⟩ := this
          rw [hs]
          show Value.string s = Value.string ⟨k.toArray⟩
          rw [← hl]
    exact this h2 k1
  have hrd : ∀ x ∈ mes.toList, ∃ n, n ∈ ks ∧ x.key = encStr n ∧ rd (H := Unit) Tryd.prog 9 (fun _ => some (.nil, [])) x = some (.string n, .nil) := by
    intro x hx
    have : x.key ∈ ks.map encStr := by rw [← hkeys]; exact List.mem_map_of_mem hx
    obtain ⟨n, hn, e⟩ := List.mem_map.1 this
    refine ⟨n, hn, e.symm, ?_⟩
    unfold rd
    rw [← e, Go.WideMaps.keyOf_string_mk Tryd.underlying9 (by have := k3 n hn; exact Nat.le_trans (by simpa [ByteArray.size] using this) (by decide))]
    simp
  refine ⟨_, ⟨mes, clk, h1, ⟨by rw [hlen]; exact Nat.le_trans hl (by decide), ⟨h4, ?_, ?_⟩, fun x hx => ?_⟩, by omega, rfl⟩, ?_, ?_⟩
  · rw [List.nodup_iff_pairwise_ne, List.pairwise_map]
    exact h3.imp fun h => by omega
  · rw [hkeys]
    rw [List.nodup_iff_pairwise_ne, List.pairwise_map]
    exact (List.nodup_iff_pairwise_ne.1 k2).imp fun h e => h (by simpa using e)
  · obtain ⟨n, _, _, h⟩ := hrd x hx
    exact ⟨_, h⟩
  · show (List.map (fun p : Lit × DataW Unit => Go.strOf p.1) _).Perm ks
    refine ((WideShapes.sorted_perm _).map _).trans ?_
    rw [List.map_map]
    have : mes.toList.map ((fun p : Lit × DataW Unit => Go.strOf p.1) ∘ rg (H := Unit) Tryd.prog 9 (fun _ => some (.nil, []))) = ks := by
      have e1 : mes.toList.map ((fun p : Lit × DataW Unit => Go.strOf p.1) ∘ rg (H := Unit) Tryd.prog 9 (fun _ => some (.nil, []))) = mes.toList.map (fun x => match x.key with | .string s => s.data.toList | _ => []) := by
        apply List.map_congr_left
        intro x hx
        obtain ⟨n, _, hn, h⟩ := hrd x hx
        simp [rg, h, hn, Go.strOf]
      rw [e1]
      have e2 : mes.toList.map (fun x => match x.key with | .string s => s.data.toList | _ => []) = (mes.toList.map (·.key)).map (fun v => match v with | .string s => s.data.toList | _ => []) := by rw [List.map_map]; rfl
      rw [e2, hkeys, List.map_map]
      simp [Function.comp_def]
    rw [this]
  · show (List.foldr DataW.insert [] _).length ≤ 1000
    rw [(WideShapes.sorted_perm _).length_eq, List.length_map, Array.length_toList]
    omega

theorem namesP_sound : CallSound Tryd.prog namesP := by
  constructor
  · intro f ts σ t τ h wf
    obtain ⟨_, i, o, own, vs, m, es, ks, _, _, _, _, _, _, h | h⟩ := names_shape h
    · obtain ⟨_, _, rfl⟩ := h
      exact ⟨wf, Nat.le_refl _⟩
    · obtain ⟨_, _, rfl⟩ := h
      exact ⟨St.wf_push wf _, by simp⟩
  · intro f ts σ t τ h wf ι w vs hR hF hA
    obtain ⟨rfl, i, o, own, cs, m, es, ks, rfl, hi, hm, hes, hl, hk, h⟩ := names_shape h
    cases hA with
    | cons a b =>
    cases b
    obtain ⟨L, hL, rfl⟩ := a
    obtain ⟨c, e, fz, h1, h2, h3, h4, h5⟩ := hR.blk i L _ hL hi
    obtain ⟨v, hv, hr⟩ := h4 (o + 1) _ hm
    obtain ⟨M, hM, rfl⟩ := hr
    have hb := hR.blk m M _ hM hes
    obtain ⟨D0, hown, hp, hs⟩ := owns_map hb hk hl
    have hc : w.cell? ⟨L.b, L.base + o + 1, none⟩ = some (.map (some M.b)) := by
      unfold World.cell?
      simp only [h1]
      rw [Nat.add_assoc]
      simpa using hv
    refine (Tryd.kept_calls L.b (L.base + o) M.b 1000 D0 _ w hc hown (Nat.le_trans hs (by decide)) (by omega)).mono ?_
    rintro e' u ⟨v, ss, rfl, hss, hrow, hnil, hbel⟩
    have hperm := hss.trans hp
    have hmerge : ss.mergeSort (fun x y => decide (x ≤ y)) = sorted ks := by
      rw [← sorted_merge ks]
      exact mergeSort_of_perm hperm
    rw [hmerge] at hrow
    have hlen := hperm.length_eq
    rcases h with ⟨rfl, rfl, rfl⟩ | ⟨hne, rfl, rfl⟩
    · have : ss = [] := List.eq_nil_of_length_eq_zero (by simpa using hlen)
      refine ⟨ι, v, rfl, ⟨Nat.le_refl _, fun _ _ => rfl, fun _ _ h => h, fun _ _ h => h, fun _ _ _ => rfl, fun i L h1 h2 => by omega, hbel.os, hbel.output, hbel.size, fun k hk _ => hbel.block k hk⟩, ⟨fun i L b hi' hb' => ?_, hR.sep, hR.glob⟩, hnil.2 this⟩
      have hB := hR.blk i L b hi' hb'
      cases b with
      | dead => trivial
      | cells own vs => exact hB.congr (hbel.block _ (hB.lt trivial))
      | map es => exact hB.congr (hbel.block _ (hB.lt trivial))
      | glob g vs => exact hB.congr (hbel.block _ (hB.lt trivial))
    · have hssne : ss ≠ [] := fun e => hne (by rw [e] at hlen; exact List.eq_nil_of_length_eq_zero (by simpa using hlen.symm))
      rcases hrow.2 with ⟨e, _⟩ | ⟨g, cap, cur, rfl, hg, hcur, hle, hcap, hsz, htk⟩
      · exact absurd (hnil.1 e) hssne
      have hsl : (sorted ks).length = ks.length := (sorted_perm' ks).length_eq
      let κ : Inj := fun j => if j = σ.size then some ⟨g, 0, cap⟩ else ι j
      have hκ : ι.le κ := by
        intro j M hj
        have : j ≠ σ.size := fun e => by rw [hF j (by omega) (by simp; omega)] at hj; cases hj
        simp [κ, this, hj]
      have hnew : BlkRel κ ⟨g, 0, cap⟩ u (.cells true ((sorted ks).map S.str)) := by
        refine ⟨cur, _, (0, 0), hcur, by rw [hsz, Nat.mul_one], by simp [hsl, ← hlen]; exact hle, fun j x hx => ?_, fun _ => .inl rfl⟩
        rw [List.getElem?_map, Option.map_eq_some_iff] at hx
        obtain ⟨n, hn, rfl⟩ := hx
        have hj : j < (sorted ks).length := (List.getElem?_eq_some_iff.1 hn).1
        have e1 : (cur.toList.take (ss.length * 1))[j]? = some (encStr n) := by rw [htk, List.getElem?_map, hn]; rfl
        rw [List.getElem?_take, if_pos (by omega), Array.getElem?_toList] at e1
        exact ⟨_, by simpa using e1, ⟨_, rfl, by simp⟩⟩
      refine ⟨κ, _, rfl, ?_, ⟨fun j M b hj hb' => ?_, fun j k M N hj hk' hl' hh hjk => ?_, fun j n vs hg => ?_⟩, ?_⟩
      · refine ⟨by simp, fun j hj => ?_, fun j hj hl' => ?_, fun j hj hl' => ?_, fun j hj hn => ?_, fun j M h1 h2 hj _ => ?_, hbel.os, hbel.output, hbel.size, fun k hk' _ => hbel.block k hk'⟩
        · have : j ≠ σ.size := by simp at hj; omega
          simp [κ, this]
        · rwa [St.get_push_ne _ _ (by omega)] at hl'
        · rwa [St.get_push_ne _ _ (by omega)] at hl'
        · rw [St.get_push_ne _ _ (by omega)]
        · have : j = σ.size := by simp at h2; omega
          subst this
          simp [κ] at hj
          subst hj
          exact .inl hg
      · by_cases e : j = σ.size
        · subst e
          simp [κ] at hj
          subst hj
          rw [St.get_push_same] at hb'
          cases hb'
          exact hnew
        · simp [κ, e] at hj
          rw [St.get_push_ne _ _ e] at hb'
          have hB := (hR.blk j M b hj hb').mono hκ
          cases b with
          | dead => trivial
          | cells own vs => exact hB.congr (hbel.block _ (hB.lt trivial))
          | map es => exact hB.congr (hbel.block _ (hB.lt trivial))
          | glob g vs => exact hB.congr (hbel.block _ (hB.lt trivial))
      · have old : ∀ {j : Nat} {M : Abs.Loc}, j ≠ σ.size → κ j = some M → held ((σ.push (.cells true ((sorted ks).map S.str))).get j) → M.b < w.heap.size := by
          intro j M e hj hh
          simp [κ, e] at hj
          rw [St.get_push_ne _ _ e] at hh
          cases hbj : σ.get j with
          | none => rw [hbj] at hh; exact hh.elim
          | some b => rw [hbj] at hh; exact (hR.blk j M b hj hbj).lt hh
        by_cases e1 : j = σ.size
        · subst e1
          have hb2 := old (fun e => hjk e.symm) hk' hh
          simp [κ] at hj
          subst hj
          intro e
          have : g = N.b := e
          omega
        · by_cases e2 : k = σ.size
          · subst e2
            have hb2 := old e1 hj hl'.held
            simp [κ] at hk'
            subst hk'
            intro e
            have : M.b = g := e
            omega
          · simp [κ, e1] at hj
            simp [κ, e2] at hk'
            rw [St.get_push_ne _ _ e1] at hl'
            rw [St.get_push_ne _ _ e2] at hh
            exact hR.sep j k M N hj hk' hl' hh hjk
      · by_cases e : j = σ.size
        · subst e
          rw [St.get_push_same] at hg
          cases hg
        · rw [St.get_push_ne _ _ e] at hg
          obtain ⟨L, hL⟩ := hR.glob j n vs hg
          exact ⟨L, hκ j L hL⟩
      · refine ⟨⟨g, 0, cap⟩, cap, by simp [κ], ?_, by rw [← hlen]; exact hle, by simp⟩
        rw [hlen]

set_option maxRecDepth 100000 in
theorem prim1_sound : CallSound Tryd.prog prim1 := orP_sound namesP_sound (pureP_sound (plain_sound _ _ _) _)

theorem prim_sound : CallSound Tryd.prog prim := orP_sound (toldP_sound (runQ_sound prim1_sound 64 16) told_all) prim1_sound
end Go.Proofs.YtgecidicpdobfaaDoor
