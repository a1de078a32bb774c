/-
  Slices of bytes, and what a disk holds, in any store. No conditions but those named in each line.
-/
import Derived.Test.YtgecidicpdobfaaDoorWalk
import Derived.Test.YtgecidicpdobfaaDoorAbsE
namespace Go.Proofs.YtgecidicpdobfaaDoor
open Go Go.Abs Go.Abs.F
set_option linter.unusedVariables false

def AllB (l : List S) : Prop := ∀ y ∈ l, ∃ n, y = S.int .u8 n
def byteOf : S → UInt8
  | .int _ n => UInt8.ofNat n.toNat
  | _ => 0
def bytesOf (l : List S) : List UInt8 := l.map byteOf

theorem toBytes_of : ∀ {l : List S}, AllB l → toBytes l = some (bytesOf l)
  | [], _ => rfl
  | y :: r, h => by
    obtain ⟨n, rfl⟩ := h y List.mem_cons_self
    have ih := toBytes_of (l := r) fun z hz => h z (List.mem_cons_of_mem _ hz)
    simp [toBytes, ih, bytesOf, byteOf]

theorem AllB.append {l r : List S} (h : AllB l) (k : AllB r) : AllB (l ++ r) := fun y hy => by
  rcases List.mem_append.1 hy with h' | h'
  · exact h y h'
  · exact k y h'

theorem AllB.take {l : List S} (h : AllB l) (n : Nat) : AllB (l.take n) := fun y hy => h y (List.mem_of_mem_take hy)

/-- The block of a slice. -/
def own : S → Option Nat
  | .emp c _ => some c
  | .sl c _ _ _ => some c
  | _ => none

def okCap : S → Prop
  | .sl _ _ n (.known c) => n ≤ c
  | .sl _ _ _ (.grown g) => g = 1
  | _ => True

/-- A slice that reads as these. -/
def Rd (s : St) (x : S) (l : List S) : Prop :=
  (l = [] ∧ (x = .nils ∨ (∃ c, x = .emp c 1) ∨ ∃ c o cap, x = .sl c o 0 cap)) ∨ ∃ c o cap w vs, x = .sl c o l.length cap ∧ s.get c = some (.cells w vs) ∧ o + l.length ≤ vs.length ∧ (vs.drop o).take l.length = l

theorem Rd.len {s : St} {x : S} {l : List S} (h : Rd s x l) : aLenSl (Z x) = some (I .i64 l.length) := by
  rcases h with ⟨rfl, rfl | ⟨c, rfl⟩ | ⟨c, o, cap, rfl⟩⟩ | ⟨c, o, cap, w, vs, rfl, _⟩ <;> rfl

theorem Rd.src {s : St} {x : S} {l : List S} (h : Rd s x l) : aSrc 1 (Z x) s.get = some (l.length, l) := by
  rcases h with ⟨rfl, rfl | ⟨c, rfl⟩ | ⟨c, o, cap, rfl⟩⟩ | ⟨c, o, cap, w, vs, rfl, h1, h2, h3⟩
  · rfl
  · rfl
  · simp [aSrc]
  · by_cases hz : l.length = 0
    · have : l = [] := List.eq_nil_of_length_eq_zero hz
      subst this
      simp [aSrc]
    · simp only [aSrc, if_neg hz, h1, Nat.mul_one, if_pos h2, h3]

theorem Rd.str {s : St} {x : S} {l : List S} (h : Rd s x l) (hb : AllB l) : aBytesStr (Z x) s.get = some (Z (.str (bytesOf l))) := by
  rcases h with ⟨rfl, rfl | ⟨c, rfl⟩ | ⟨c, o, cap, rfl⟩⟩ | ⟨c, o, cap, w, vs, rfl, h1, h2, h3⟩
  · rfl
  · rfl
  · simp [aBytesStr, bytesOf]
  · by_cases hz : l.length = 0
    · have : l = [] := List.eq_nil_of_length_eq_zero hz
      subst this
      simp [aBytesStr, bytesOf]
    · simp only [aBytesStr, if_neg hz, h1, if_pos h2, h3, toBytes_of hb]

theorem Rd.keep {s t : St} {x : S} {l : List S} (h : Rd s x l) (hk : ∀ c, own x = some c → t.get c = s.get c) : Rd t x l := by
  rcases h with h | ⟨c, o, cap, w, vs, rfl, h1, h2, h3⟩
  · exact .inl h
  · exact .inr ⟨c, o, cap, w, vs, rfl, by rw [hk c rfl]; exact h1, h2, h3⟩

/-- A file's slice. -/
def BS (s : St) (x : S) (l : List S) : Prop :=
  (x = .nils ∧ l = []) ∨ (∃ c rows, x = .emp c 1 ∧ l = [] ∧ s.get c = some (.cells true rows)) ∨ ∃ c rows, x = .sl c 0 l.length (.grown 1) ∧ s.get c = some (.cells true rows) ∧ l.length ≤ rows.length ∧ rows.take l.length = l

theorem BS.rd {s : St} {x : S} {l : List S} (h : BS s x l) : Rd s x l := by
  rcases h with ⟨rfl, rfl⟩ | ⟨c, rows, rfl, rfl, _⟩ | ⟨c, rows, rfl, h1, h2, h3⟩
  · exact .inl ⟨rfl, .inl rfl⟩
  · exact .inl ⟨rfl, .inr (.inl ⟨c, rfl⟩)⟩
  · exact .inr ⟨c, 0, _, _, rows, rfl, h1, by omega, by simpa using h3⟩

theorem BS.keep {s t : St} {x : S} {l : List S} (h : BS s x l) (hk : ∀ c, own x = some c → t.get c = s.get c) : BS t x l := by
  rcases h with h | ⟨c, rows, rfl, rfl, h1⟩ | ⟨c, rows, rfl, h1, h2, h3⟩
  · exact .inl h
  · exact .inr (.inl ⟨c, rows, rfl, rfl, by rw [hk c rfl]; exact h1⟩)
  · exact .inr (.inr ⟨c, rows, rfl, by rw [hk c rfl]; exact h1, h2, h3⟩)

theorem BS.lt {s : St} {x : S} {l : List S} (h : BS s x l) (wf : s.wf) {c : Nat} (hc : own x = some c) : c < s.size := by
  rcases h with ⟨rfl, rfl⟩ | ⟨c', rows, rfl, rfl, h1⟩ | ⟨c', rows, rfl, h1, h2, h3⟩
  · cases hc
  · cases hc; exact wf.lt h1
  · cases hc; exact wf.lt h1

theorem bs_append {s : St} {x y : S} {l xs : List S} (hb : BS s x l) (wf : s.wf) (hs : Rd s y xs) (hl : l.length + xs.length ≤ 100000) :
    ∃ x' t, aAppend 1 1 (Z x) (Z y) s = some (Z x', t) ∧ t.wf ∧ s.size ≤ t.size ∧ BS t x' (l ++ xs) ∧ (∀ b, b < s.size → own x ≠ some b → t.get b = s.get b) ∧ (own x' = none ∨ own x' = own x ∨ ∃ c, own x' = some c ∧ s.size ≤ c) := by
  have hsrc := hs.src
  have hB : (l.length + xs.length) * 1 ≤ 140737488355328 := by omega
  rcases hb with ⟨rfl, rfl⟩ | ⟨c, rows, rfl, rfl, h1⟩ | ⟨c, rows, rfl, h1, h2, h3⟩
  · by_cases hz : xs.length = 0
    · have : xs = [] := List.eq_nil_of_length_eq_zero hz
      subst this
      exact ⟨.nils, s, by simp [aAppend, hsrc], wf, Nat.le_refl _, .inl ⟨rfl, rfl⟩, fun _ _ _ => rfl, .inl rfl⟩
    · have hB2 : xs.length * 1 ≤ 140737488355328 := by omega
      refine ⟨.sl s.size 0 xs.length (.grown 1), s.push (.cells true xs), ?_, St.wf_push wf _, by simp, .inr (.inr ⟨s.size, xs, by simp, St.get_push_same _ _, by simp, by simp⟩), fun b hb _ => St.get_push_ne _ _ (by omega), .inr (.inr ⟨_, rfl, Nat.le_refl _⟩)⟩
      simp only [aAppend, hsrc, if_neg hz, if_pos hB2]
      rfl
  · have hcl := wf.lt h1
    by_cases hz : xs.length = 0
    · have : xs = [] := List.eq_nil_of_length_eq_zero hz
      subst this
      exact ⟨.emp c 1, s, by simp [aAppend, hsrc], wf, Nat.le_refl _, .inr (.inl ⟨c, rows, rfl, rfl, h1⟩), fun _ _ _ => rfl, .inr (.inl rfl)⟩
    · have hB2 : 1 = 1 ∧ xs.length * 1 ≤ 140737488355328 := ⟨rfl, by omega⟩
      have hg : ((s.set c .dead).push (.cells true xs)).get s.size = some (.cells true xs) := by
        have := St.get_push_same (s.set c .dead) (.cells true xs)
        rwa [St.size_set] at this
      refine ⟨.sl s.size 0 xs.length (.grown 1), (s.set c .dead).push (.cells true xs), ?_, St.wf_push (St.wf_set wf hcl _) _, by simp, .inr (.inr ⟨s.size, xs, by simp, hg, by simp, by simp⟩), fun b hb hbc => ?_, .inr (.inr ⟨_, rfl, Nat.le_refl _⟩)⟩
      · unfold aAppend
        rw [hsrc]
        dsimp only
        rw [if_neg (by decide), if_pos hB2, if_neg hz, h1]
      · have : b ≠ c := fun e => hbc (by rw [e]; rfl)
        rw [St.get_push_ne _ _ (by rw [St.size_set]; omega), St.get_set_ne _ _ this]
  · have hcl := wf.lt h1
    have hB2 : 1 = 1 ∧ (l.length + xs.length) * 1 ≤ 140737488355328 := ⟨rfl, hB⟩
    by_cases hz : xs.length = 0
    · have : xs = [] := List.eq_nil_of_length_eq_zero hz
      subst this
      refine ⟨.sl c 0 l.length (.grown 1), s, ?_, wf, Nat.le_refl _, .inr (.inr ⟨c, rows, by simp, h1, by simpa using h2, by simpa using h3⟩), fun _ _ _ => rfl, .inr (.inl rfl)⟩
      unfold aAppend
      rw [hsrc]
      dsimp only
      rw [if_neg (by decide), if_pos hB2, if_pos hz]
    · by_cases hf : l.length + xs.length ≤ rows.length
      · have hf2 : 0 + (l.length + xs.length) * 1 ≤ rows.length := by omega
        refine ⟨.sl c 0 (l.length + xs.length) (.grown 1), s.set c (.cells true (setRange rows (0 + l.length * 1) xs)), ?_, St.wf_set wf hcl _, by simp, .inr (.inr ⟨c, _, by simp, St.get_set_same _ _ _, by simpa using hf, ?_⟩), fun b hb hbc => ?_, .inr (.inl rfl)⟩
        · unfold aAppend
          rw [hsrc]
          dsimp only
          rw [if_neg (by decide), if_pos hB2, if_neg hz, h1]
          dsimp only
          rw [if_pos hf2]
        · rw [setRange_eq _ _ _ (by omega), List.length_append, show 0 + l.length * 1 = l.length by omega, h3]
          rw [List.take_append_of_le_length (by simp)]
          exact List.take_of_length_le (by simp)
        · have : b ≠ c := fun e => hbc (by rw [e]; rfl)
          exact St.get_set_ne _ _ this
      · have hf2 : ¬ 0 + (l.length + xs.length) * 1 ≤ rows.length := by omega
        have hf3 : 0 + l.length * 1 ≤ rows.length := by omega
        have hg : ((s.set c .dead).push (.cells true (l ++ xs))).get s.size = some (.cells true (l ++ xs)) := by
          have := St.get_push_same (s.set c .dead) (.cells true (l ++ xs))
          rwa [St.size_set] at this
        refine ⟨.sl s.size 0 (l.length + xs.length) (.grown 1), (s.set c .dead).push (.cells true (l ++ xs)), ?_, St.wf_push (St.wf_set wf hcl _) _, by simp, .inr (.inr ⟨s.size, l ++ xs, by simp, hg, by simp, by rw [List.take_length]⟩), fun b hb hbc => ?_, .inr (.inr ⟨_, rfl, Nat.le_refl _⟩)⟩
        · unfold aAppend
          rw [hsrc]
          dsimp only
          rw [if_neg (by decide), if_pos hB2, if_neg hz, h1]
          dsimp only
          rw [if_neg hf2, if_pos hf3, List.drop_zero, Nat.mul_one, h3]
        · have : b ≠ c := fun e => hbc (by rw [e]; rfl)
          rw [St.get_push_ne _ _ (by rw [St.size_set]; omega), St.get_set_ne _ _ this]

theorem aBounds_hi {len cap k : Nat} (h : k ≤ cap) : aBounds len cap none (some (I .i64 k)) none = some (0, k, cap) := by
  have e : aBnd (I .i64 k) cap = some k := by
    have h0 : (0 : Int) ≤ (k : Int) := by omega
    have h1 : (k : Int) ≤ (cap : Int) := by omega
    simp [aBnd, h]
  delta aBounds
  dsimp only
  rw [e]

/-- A file's slice cut to k. -/
theorem bs_cut {s : St} {x : S} {l : List S} (hb : BS s x l) {k : Nat} (hk : k ≤ l.length) :
    ∃ x', aPieceSl 1 (Z x) none (some (I .i64 k)) none = some (Z x') ∧ BS s x' (l.take k) ∧ (own x' = none ∨ own x' = own x) := by
  rcases hb with ⟨rfl, rfl⟩ | ⟨c, rows, rfl, rfl, h1⟩ | ⟨c, rows, rfl, h1, h2, h3⟩
  · have : k = 0 := by simpa using hk
    subst this
    exact ⟨.nils, rfl, .inl ⟨rfl, rfl⟩, .inl rfl⟩
  · have : k = 0 := by simpa using hk
    subst this
    exact ⟨.emp c 1, rfl, .inr (.inl ⟨c, rows, rfl, rfl, h1⟩), .inr rfl⟩
  · by_cases hz : l.length = 0
    · have hl : l = [] := List.eq_nil_of_length_eq_zero hz
      subst hl
      have : k = 0 := by simpa using hk
      subst this
      exact ⟨.emp c 1, rfl, .inr (.inl ⟨c, rows, rfl, rfl, h1⟩), .inr rfl⟩
    · have hk' : (k : Int) ≤ (l.length : Int) := by omega
      have hpos : 0 < l.length := by omega
      refine ⟨.sl c 0 k (.grown 1), ?_, .inr (.inr ⟨c, rows, by rw [List.length_take, Nat.min_eq_left hk], h1, by rw [List.length_take]; omega, ?_⟩), .inr rfl⟩
      · unfold aPieceSl
        dsimp only
        rw [if_pos rfl, aBounds_hi hk]
        dsimp only
        rw [if_pos hpos]
        simp
      · rw [List.length_take, Nat.min_eq_left hk]
        have := congrArg (List.take k) h3
        rwa [List.take_take, Nat.min_eq_left hk] at this
end Go.Proofs.YtgecidicpdobfaaDoor
