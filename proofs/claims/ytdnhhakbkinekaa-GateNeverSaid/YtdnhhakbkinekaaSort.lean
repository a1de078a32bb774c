/-
  What stands for slices.Sort in our runs is what it does. No conditions.
-/
import Derived.Test.YtdnhhakbkinekaaLaid
import Derived.Test.YtdnhhakbkinekaaWalkN
import Derived.Test.YtdnhhakbkinekaaChecked
import Derived.WalkKit
import Derived.Lib.SlKeysI
namespace Go.Proofs
open Go.RowKit Go.Maps Go.Sort Go.Shelf
theorem Try.sort_calls (blk off cap : Nat) (zs : List Int) (w : World) (hH : Holds (Value.int .i64) w blk off zs.toArray) (hblk : blk < w.heap.size) (hsz : zs.length < 4611686018427387904) :
    Calls Try.prog 14 #[.slice (some ⟨blk, off, none⟩) zs.length cap] w fun e w' => e = .returned (.tuple #[]) ∧ ∃ n os, w' = grow (putRow (Value.int .i64) (Sort.ahead w n) blk off (zs.mergeSort fun x y => decide (x ≤ y)).toArray) os :=
  AnyM.slices_Sort_int Try.sortA blk off cap zs w hH hblk hsz
theorem Try.sort_none (p : Option Addr) (cap : Nat) (w : World) : Calls Try.prog 14 #[.slice p 0 cap] w fun e w' => e = .returned (.tuple #[]) ∧ w' = w :=
  AnyM.slices_Sort_int_none Try.sortA p cap w

theorem heap_sorted_at {w : World} {g n o : Nat} {os : Array Obj} {cur : Array Value} {e : TypeId} {fr : Nat × Nat} (d : Array Int) (hb : w.heap[g]? = some (.cells cur e fr)) :
    (grow (putRow (Value.int .i64) (Sort.ahead w n) g o d) os).heap[g]? = some (.cells (putCells (Value.int .i64) o d cur) e fr) := by
  have hg : g < w.heap.size := (Array.getElem?_eq_some_iff.1 hb).1
  rw [heap_grow_old _ _ (by simpa using hg)]
  simp [putRow, mapBlock, Sort.ahead, Array.getElem?_modify, hb, onCells]

theorem heap_sorted_other {w : World} {g n o k : Nat} {os : Array Obj} (d : Array Int) (hk : k < w.heap.size) (hne : k ≠ g) : (grow (putRow (Value.int .i64) (Sort.ahead w n) g o d) os).heap[k]? = w.heap[k]? := by
  rw [heap_grow_old _ _ (by simpa using hk)]
  have : g ≠ k := fun e => hne e.symm
  simp [putRow, mapBlock, Sort.ahead, Array.getElem?_modify, this]
end Go.Proofs
namespace Go.Proofs.Ytdnhhakbkinekaa
open Go Go.Abs Go.Abs.F
set_option linter.unusedVariables false

theorem intsOf_facts : ∀ {l : List S} {zs : List Int}, intsOf l = some zs → l = zs.map (S.int .i64) := by
  intro l
  induction l with
  | nil => intro zs h; cases h; rfl
  | cons x r ih =>
    intro zs h
    unfold intsOf at h
    split at h
    · rename_i heq; cases heq
    · rename_i n r' heq
      cases heq
      split at h
      · rename_i l hl
        cases h
        rw [ih hl]
        rfl
      · cases h
    · cases h

theorem intsOf_map : ∀ zs : List Int, intsOf (zs.map (S.int .i64)) = some zs
  | [] => rfl
  | z :: r => by simp [intsOf, intsOf_map r]

theorem put_perm (n : Int) : ∀ l : List Int, (put n l).Perm (n :: l)
  | [] => .refl _
  | m :: r => by
    unfold put
    cases decide (n ≤ m) with
    | true => exact .refl _
    | false => exact ((put_perm n r).cons m).trans (.swap n m r)

theorem put_sorted (n : Int) : ∀ l : List Int, l.Pairwise (· ≤ ·) → (put n l).Pairwise (· ≤ ·)
  | [], _ => List.pairwise_singleton _ _
  | m :: r, h => by
    unfold put
    by_cases hd : n ≤ m
    · simp only [decide_eq_true hd]
      refine List.pairwise_cons.2 ⟨fun x hx => ?_, h⟩
      rcases List.mem_cons.1 hx with rfl | hx
      · exact hd
      · exact Int.le_trans hd ((List.pairwise_cons.1 h).1 x hx)
    · simp only [decide_eq_false hd]
      refine List.pairwise_cons.2 ⟨fun x hx => ?_, put_sorted n r (List.pairwise_cons.1 h).2⟩
      rcases List.mem_cons.1 ((put_perm n r).mem_iff.1 hx) with rfl | hx
      · omega
      · exact (List.pairwise_cons.1 h).1 x hx

theorem sorted_perm' : ∀ l : List Int, (sorted l).Perm l
  | [] => .refl _
  | n :: r => (put_perm n _).trans ((sorted_perm' r).cons n)

theorem sorted_sorted : ∀ l : List Int, (sorted l).Pairwise (· ≤ ·)
  | [] => .nil
  | n :: r => put_sorted n _ (sorted_sorted r)

theorem sorted_merge (l : List Int) : l.mergeSort (fun x y => decide (x ≤ y)) = sorted l := by
  have h1 : (l.mergeSort (fun x y => decide (x ≤ y))).Perm (sorted l) := (List.mergeSort_perm _ _).trans (sorted_perm' l).symm
  have h2 : (l.mergeSort (fun x y => decide (x ≤ y))).Pairwise (· ≤ ·) := by
    have := List.pairwise_mergeSort (le := fun x y : Int => decide (x ≤ y)) (by intro a b c; simp; omega) (by intro a b; simp; omega) l
    exact this.imp fun h => by simpa using h
  exact h1.eq_of_pairwise (fun a b _ _ h h' => Int.le_antisymm h h') h2 (sorted_sorted l)

theorem sort_shape {f : FuncId} {ts : List T} {σ τ : St} {t : T} (h : sortP f ts σ = some (t, τ)) :
    f = 14 ∧ t = .tup [] ∧ ((ts = [Z .nils] ∧ τ = σ) ∨ ∃ c n cap vs zs, ts = [Z (.sl c 0 n cap)] ∧ σ.get c = some (.cells true vs) ∧ n ≤ vs.length ∧ n ≤ 100000 ∧ intsOf (vs.take n) = some zs ∧ τ = σ.set c (.cells true ((sorted zs).map (S.int .i64) ++ vs.drop n))) := by
  unfold sortP at h
  split at h
  · cases h
  · rename_i hf
    refine ⟨Nat.eq_of_beq_eq_true hf, ?_⟩
    split at h
    · cases h
      exact ⟨rfl, .inl ⟨rfl, rfl⟩⟩
    · rename_i c n cap
      split at h
      · rename_i vs hc
        split at h
        · rename_i zs hb hz
          cases h
          rw [Bool.and_eq_true] at hb
          exact ⟨rfl, .inr ⟨c, n, cap, vs, zs, rfl, hc, Nat.le_of_ble_eq_true hb.1, Nat.le_of_ble_eq_true hb.2, hz, rfl⟩⟩
        · cases h
      · cases h
    · cases h

theorem sortP_sound : CallSound Try.prog sortP := by
  constructor
  · intro f ts σ t τ h wf
    obtain ⟨_, _, h | ⟨c, n, cap, vs, zs, _, hc, _, _, _, rfl⟩⟩ := sort_shape h
    · obtain ⟨_, rfl⟩ := h
      exact ⟨wf, Nat.le_refl _⟩
    · exact ⟨St.wf_set wf (wf.lt hc) _, Nat.le_refl _⟩
  · intro f ts σ t τ h wf ι w vs hR hF hA
    obtain ⟨rfl, rfl, ⟨rfl, rfl⟩ | ⟨c, n, cap, bs, zs, rfl, hc, hn, hn2, hz, rfl⟩⟩ := sort_shape h
    · cases hA with
      | cons a b =>
      cases b
      simp only [TRel, VRel, SRel] at a
      subst a
      refine (Try.sort_none none 0 w).mono ?_
      rintro e u ⟨rfl, rfl⟩
      exact ⟨ι, _, rfl, Ext.refl _ _ _, hR, [], rfl, .nil⟩
    · cases hA with
      | cons a b =>
      cases b
      obtain ⟨L, k, hL, rfl, _⟩ := sl_shape a
      obtain ⟨cs, e, fz, h1, h2, h3, h4, h5⟩ := hR.blk c L _ hL hc
      have hzs := intsOf_facts hz
      have hzl : zs.length = n := by
        have := congrArg List.length hzs
        rw [List.length_take, List.length_map] at this
        omega
      subst hzl
      have hlt := (Array.getElem?_eq_some_iff.1 h1).1
      have hcell : ∀ j, (hj : j < zs.length) → cs[L.base + j]? = some (.int .i64 zs[j]) := fun j hj => by
        have hx : bs[j]? = some (S.int .i64 zs[j]) := by
          have := congrArg (fun l => l[j]?) hzs
          simp only [List.getElem?_map, List.getElem?_eq_getElem hj, Option.map_some] at this
          rw [List.getElem?_take_of_lt (by omega)] at this
          exact this
        obtain ⟨v, hv, hr⟩ := h4 j _ hx
        have : v = .int .i64 zs[j] := hr
        rw [hv, this]
      have hH : Sort.Holds (Value.int .i64) w L.b (L.base + 0) zs.toArray := by
        intro j hj
        have hj' : j < zs.length := by simpa using hj
        have h6 := h5 rfl
        have hin := (Array.getElem?_eq_some_iff.1 (hcell j hj')).1
        refine ⟨?_, ?_⟩
        · simp only [World.cell?, h1]
          rw [Nat.add_zero, hcell j hj']
          simp [hj']
        · simp only [World.frozen?, h1]
          rw [Bool.eq_false_iff]
          simp
          omega
      refine (Try.sort_calls L.b (L.base + 0) k zs w hH hlt (by omega)).mono ?_
      rintro e' u ⟨rfl, q, os, rfl⟩
      have hsl : (sorted zs).length = zs.length := (sorted_perm' zs).length_eq
      rw [sorted_merge]
      have hblk : BlkRel ι L (Sort.grow (Sort.putRow (Value.int .i64) (Sort.ahead w q) L.b (L.base + 0) (sorted zs).toArray) os) (.cells true ((sorted zs).map (S.int .i64) ++ bs.drop zs.length)) := by
        refine ⟨_, e, fz, heap_sorted_at _ h1, by simp [Sort.putCells, h2], by simp [hsl]; omega, fun j x hx => ?_, fun hh => by simpa [Sort.putCells] using h5 rfl⟩
        by_cases hj : j < zs.length
        · rw [List.getElem?_append_left (by simp [hsl]; exact hj), List.getElem?_map, Option.map_eq_some_iff] at hx
          obtain ⟨z, hz', rfl⟩ := hx
          have hin := (Array.getElem?_eq_some_iff.1 (hcell j hj)).1
          refine ⟨.int .i64 z, ?_, rfl⟩
          have hg := (List.getElem?_eq_some_iff.1 hz').2
          simp [Sort.putCells, Array.getElem?_mapIdx, hsl, hj, hin]
          exact hg
        · rw [List.getElem?_append_right (by simp [hsl]; omega), List.getElem?_drop] at hx
          have : zs.length + (j - ((sorted zs).map (S.int .i64)).length) = j := by simp [hsl]; omega
          rw [this] at hx
          obtain ⟨v, hv, hr⟩ := h4 j x hx
          refine ⟨v, ?_, hr⟩
          have hin := (Array.getElem?_eq_some_iff.1 hv).1
          simp [Sort.putCells, Array.getElem?_mapIdx, hsl, hj, hv]
      have hcl := wf.lt hc
      refine ⟨ι, _, rfl, ?_, ⟨fun i M b hi hb => ?_, fun i j M N hi hj hl hh hij => ?_⟩, [], rfl, .nil⟩
      · refine ⟨by simp, fun _ _ => rfl, fun i hi hl => ?_, fun i hi hl => ?_, fun i hi hn' => ?_, fun i M h1 h2 => by simp at h2; omega, rfl, rfl, by simp [Sort.grow], fun k' hk' hk2 => ?_⟩
        · by_cases e : i = c
          · subst e; rw [hc]; trivial
          · rwa [St.get_set_ne _ _ e] at hl
        · by_cases e : i = c
          · subst e; rw [hc]; trivial
          · rwa [St.get_set_ne _ _ e] at hl
        · have : i ≠ c := fun e => by rw [e, hL] at hn'; cases hn'
          rw [St.get_set_ne _ _ this]
        · have hne := hk2 c L hcl hL (by rw [hc]; trivial)
          exact heap_sorted_other _ hk' (fun e => hne e.symm)
      · by_cases e : i = c
        · subst e
          rw [St.get_set_same] at hb
          cases hb
          rw [hL] at hi
          cases hi
          exact hblk
        · rw [St.get_set_ne _ _ e] at hb
          have hB := hR.blk i M b hi hb
          cases b with
          | dead => trivial
          | cells own vs =>
            have hne := hR.sep c i L M hL hi (by rw [hc]; trivial) (by rw [hb]; trivial) (fun e' => e e'.symm)
            exact hB.congr (heap_sorted_other _ (hB.lt trivial) (fun e => hne e.symm))
          | map es =>
            have hne := hR.sep c i L M hL hi (by rw [hc]; trivial) (by rw [hb]; trivial) (fun e' => e e'.symm)
            exact hB.congr (heap_sorted_other _ (hB.lt trivial) (fun e => hne e.symm))
      · have back : ∀ {x : Nat}, held ((σ.set c (.cells true ((sorted zs).map (S.int .i64) ++ bs.drop zs.length))).get x) → held (σ.get x) := fun {x} hx => by
          by_cases e : x = c
          · subst e; rw [hc]; trivial
          · rwa [St.get_set_ne _ _ e] at hx
        have backl : ∀ {x : Nat}, live ((σ.set c (.cells true ((sorted zs).map (S.int .i64) ++ bs.drop zs.length))).get x) → live (σ.get x) := fun {x} hx => by
          by_cases e : x = c
          · subst e; rw [hc]; trivial
          · rwa [St.get_set_ne _ _ e] at hx
        exact hR.sep i j M N hi hj (backl hl) (back hh) hij

theorem prim_sound : CallSound Try.prog prim := orP_sound prim1_sound (orP_sound (pureP_sound (runQ_sound prim1_sound _ _) _) sortP_sound)
end Go.Proofs.Ytdnhhakbkinekaa
