/-
  append and copy.
-/
import Derived.Test.YtgecidicpdobfaaDoorAbsWrite
namespace Go.Abs
open Go
section
variable {P : Program} {ι : Inj} {w : World} {σ : St}

theorem run_askRoom (k : Nat) (w : World) : (askRoom k).run P w = .ok () w := by
  unfold askRoom
  split
  · rfl
  · rfl

theorem aSrc_run {e n : Nat} {x : T} {u : Value} {xs : List S} {g : Mem} (hR : Rel ι g w) (hx : TRel ι x u) (h : aSrc e x g = some (n, xs)) :
    xs.length = n * e ∧ (Builtin.lenOf u).run P w = .ok n w ∧
      ∀ k, k ≤ n → ∃ cs : List Value, (Builtin.firstCells e k u).run P w = .ok cs.toArray w ∧ All2 (SRel ι) (xs.take (k * e)) cs := by
  unfold aSrc at h
  split at h
  · cases h
    simp only [TRel, VRel, SRel] at hx; subst hx
    exact ⟨by simp, rfl, fun k hk => ⟨[], by simp [Builtin.firstCells, run_pure], by simpa using All2.nil⟩⟩
  · cases h
    obtain ⟨L, o, c, hL, rfl, _⟩ := hx
    refine ⟨by simp, rfl, fun k hk => ?_⟩
    have : k = 0 := by omega
    subst this
    exact ⟨[], by simp [Builtin.firstCells, loadCells, loadCellsFrom, run_pure], by simpa using All2.nil⟩
  · rename_i i o len c
    obtain ⟨L, k, hL, rfl, _⟩ := sl_shape hx
    split at h
    · rename_i hz
      subst hz
      cases h
      refine ⟨by simp, rfl, fun k hk => ?_⟩
      have : k = 0 := by omega
      subst this
      exact ⟨[], by simp [Builtin.firstCells, loadCells, loadCellsFrom, run_pure], by simpa using All2.nil⟩
    split at h
    · rename_i own vs hb
      split at h
      · rename_i hle
        cases h
        refine ⟨by simp; omega, rfl, fun k hk => ?_⟩
        have hke : k * e ≤ n * e := Nat.mul_le_mul_right e hk
        obtain ⟨ds, hd, rd⟩ := run_loadCells (P := P) hR hL hb (o := o) (n := k * e) rfl (by simp; omega)
        refine ⟨ds, by simpa [Builtin.firstCells] using hd, ?_⟩
        rw [List.take_take, Nat.min_eq_left hke]
        exact rd
      · cases h
    · cases h
  · rename_i l
    split at h
    · rename_i he
      subst he
      cases h
      obtain ⟨s, rfl, rfl⟩ := hx
      refine ⟨by simp [strBytes], ?_, ?_⟩
      · rw [← size_data]; rfl
      · intro k hk
        refine ⟨(s.data.toList.take k).map fun b => .int .u8 b.toNat, ?_, ?_⟩
        · simp only [Builtin.firstCells, run_pure]
          congr 1
          rw [ByteArray.data_extract]
          apply Array.toList_inj.1
          simp [List.map_take]
        · rw [Nat.mul_one, strBytes, ← List.map_take]
          exact all2_map fun b _ => rfl
    · cases h
  · cases h

theorem run_append {t u ty e : TypeId} {n b cnt : Nat} (ht : P.underlying t = some (.slice e)) (hn : szOf P e = some n) (hb : byOf P e = some b) {z : V} (hz : zeroOf P e = some z) (hu : asSrcT P u = true) (hb0 : b ≠ 0)
    {a : Option Addr} {len cap : Nat} {x : Value} (hlen : (Builtin.lenOf x).run P w = .ok cnt w) {cs : List Value}
    (hcap : len ≤ cap) (hsmall : (len + cnt) * b ≤ 140737488355328) :
    (len + cnt ≤ cap → (Builtin.firstCells n cnt x).run P w = .ok cs.toArray w → (Builtin.append_ #[t, u] ty #[.slice a len cap, x]).run P w =
      match (match a with | some a => storeCells (a.add (len * n)) cs | none => pure ()).run P w with
      | .ok () w' => .ok (.slice a (len + cnt) cap) w'
      | .halt h w' => .halt h w') ∧
    (cap < len + cnt → ∀ old : List Value, (Builtin.firstCells n cnt x).run P { w with drawn := w.drawn + 1 } = .ok cs.toArray { w with drawn := w.drawn + 1 } →
      (Builtin.firstCells n len (.slice a len cap)).run P { w with drawn := w.drawn + 1 } = .ok old.toArray { w with drawn := w.drawn + 1 } → ∃ (c : Nat) (more : Array Value), len + cnt ≤ c ∧ more.size = (c - (len + cnt)) * z.cells.length ∧
      (Builtin.append_ #[t, u] ty #[.slice a len cap, x]).run P w =
        .ok (.slice (some ⟨w.heap.size, 0, none⟩) (len + cnt) c) { w with drawn := w.drawn + 1, heap := w.heap.push (.cells ((old ++ cs).toArray ++ more) e (0, 0)) }) := by
  obtain ⟨i, hi, hib⟩ := run_by (P := P) (w := w) hb
  have hi' : ∀ w', (typeInfo e).run P w' = .ok i w' := by
    intro w'
    obtain ⟨i', h1, _⟩ := run_by (P := P) (w := w') hb
    have : P.info? e = some i := by
      simp only [typeInfo, run_bind, program, Sem.run] at hi
      cases hx : P.info? e with
      | none => rw [hx] at hi; simp [stuck, Sem.run] at hi
      | some k => rw [hx] at hi; simp only [run_pure] at hi; cases hi; rfl
    simp [typeInfo, run_bind, run_pure, program, Sem.run, this]
  have hud : ∃ d, P.underlying u = some d ∧ ∀ k, d ≠ .int k := by
    unfold asSrcT at hu
    split at hu
    · rename_i hu'; exact ⟨_, hu', fun k h => by cases h⟩
    · rename_i hu'; exact ⟨_, hu', fun k h => by cases h⟩
    · cases hu
  obtain ⟨d, hd, hdk⟩ := hud
  have hdm : (match d with | .int _ => true | _ => false) = false := by
    cases d <;> first | rfl | (rename_i k; exact (hdk k rfl).elim)
  constructor
  · intro hle hcs
    simp only [Builtin.append_, run_bind, run_pure, run_und ht, run_und hd, run_sz hn, List.getElem?_toArray, List.getElem?_cons_zero, List.getElem?_cons_succ, hdm, Bool.false_eq_true, if_false, hlen, if_pos hle,
      Bool.not_false, if_true, hcs]
    cases a with
    | none => simp [run_pure]
    | some a =>
      simp only [run_bind]
      cases (storeCells (a.add (len * n)) cs).run P w with
      | halt h w' => rfl
      | ok x w' => rfl
  · intro hgt old hcs hold
    have hgrow := growslice_fits (bytes := b) hgt hsmall
    obtain ⟨zv, hzr, hzrel⟩ := run_zero (P := P) (w := { w with drawn := w.drawn + 1 }) (ι := fun _ => none) hz
    have hzl := forall2_length (VRel.cells hzrel)
    let c := (len + cnt) + (w.tape w.drawn (.appendCap (len + cnt) cap e)) % (2 ^ 63 - (len + cnt))
    have hch : (choose (.appendCap (len + cnt) cap e)).run P w = .ok c { w with drawn := w.drawn + 1 } := by
      simp only [choose, Sem.run, Question.forced, Bool.false_eq_true, if_false, Question.cut, c]
    refine ⟨c, Builtin.zeroCells zv.cells (c - (len + cnt)), by simp only [c]; omega, by simp [Builtin.zeroCells, hzl], ?_⟩
    have hnot1 : ¬ (((len + cnt : Nat) : Int) > IntKind.i64.max ∧ (False ∨ i.bytes = 0)) := by rw [hib]; rintro ⟨_, h | h⟩; exact h; exact hb0 h
    have hnot2 : ¬ (Builtin.nextslicecap (len + cnt) cap * i.bytes > 2 ^ 48) := by rw [hib]; omega
    simp only [Builtin.append_, run_bind, run_pure, run_und ht, run_und hd, run_sz hn, List.getElem?_toArray, List.getElem?_cons_zero, List.getElem?_cons_succ, hdm, Bool.false_eq_true, if_false, hlen,
      if_neg (Nat.not_le.2 hgt), Bool.not_false, if_true, hi']
    rw [if_neg hnot1]
    simp only [run_bind, hi']
    rw [if_neg hnot2]
    simp only [run_bind, hch, hi', run_askRoom, hold, hcs, hzr, newRow, newObj, Sem.run, run_pure]
    simp
end
end Go.Abs
