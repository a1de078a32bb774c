/-
  Several texts in one: what functions that the law reaches compute. No conditions but those named in each line.
-/
import Derived.Shelf.Strings.OnBuilder
import Derived.Shelf.Strings.Search3
import Derived.Shelf.Strings.Count
import Derived.Test.YtlhbidbdmdcdeaaGreatDoorProg
import Derived.Test.YtlhbidbdmdcdeaaGreatDoorFnsA
/-
  Functions of the library in this program, as the kit lays them. No conditions.
-/
namespace Go.Proofs
open Go.Shelf
def Tryz.lays156_ren : Go.Shelf.Ren := ⟨fun | 156 => 79 | 165 => 93 | 166 => 94 | 169 => 95 | 240 => 106 | 241 => 107 | 276 => 118 | 277 => 119 | n => n, fun | 31 => 49 | 9 => 9 | 3 => 3 | 4 => 4 | 0 => 0 | 20 => 20 | 72 => 128 | 76 => 132 | 70 => 126 | 37 => 27 | 75 => 131 | 127 => 142 | 164 => 152 | 5 => 5 | 80 => 134 | n => n, fun | n => n⟩
theorem Tryz.lays156 : Go.Proofs.Lays.n156 Tryz.prog Tryz.lays156_ren := {
  mixed := by kernel_rfl
  f156 := Tryz.func79.trans (congrArg some (by kernel_rfl))
  f165 := Tryz.func93.trans (congrArg some (by kernel_rfl))
  f166 := Tryz.func94.trans (congrArg some (by kernel_rfl))
  f169 := Tryz.func95.trans (congrArg some (by kernel_rfl))
  f240 := Tryz.func106.trans (congrArg some (by kernel_rfl))
  f241 := Tryz.func107.trans (congrArg some (by kernel_rfl))
  f276 := Tryz.func118.trans (congrArg some (by kernel_rfl))
  f277 := Tryz.func119.trans (congrArg some (by kernel_rfl))
  t0 := Tryz.underlying0
  a0 := Tryz.isAgg0
  z0 := Tryz.sizeOf0
  v0 := Tryz.zeroValue0
  t3 := Tryz.underlying3
  a3 := Tryz.isAgg3
  z3 := Tryz.sizeOf3
  v3 := Tryz.zeroValue3
  t4 := Tryz.underlying4
  a4 := Tryz.isAgg4
  z4 := Tryz.sizeOf4
  v4 := Tryz.zeroValue4
  t9 := Tryz.underlying9
  a9 := Tryz.isAgg9
  z9 := Tryz.sizeOf9
  v9 := Tryz.zeroValue9
  t20 := Tryz.underlying20
  a20 := Tryz.isAgg20
  z20 := Tryz.sizeOf20
  v20 := Tryz.zeroValue20
  t31 := Tryz.underlying49
  a31 := Tryz.isAgg49
  z31 := Tryz.sizeOf49
  v31 := Tryz.zeroValue49
  t37 := Tryz.underlying27
  a37 := Tryz.isAgg27
  z37 := Tryz.sizeOf27
  v37 := Tryz.zeroValue27
  t70 := Tryz.underlying126
  a70 := Tryz.isAgg126
  z70 := Tryz.sizeOf126
  v70 := Tryz.zeroValue126
  t72 := Tryz.underlying128
  a72 := Tryz.isAgg128
  z72 := Tryz.sizeOf128
  v72 := Tryz.zeroValue128
  t75 := Tryz.underlying131
  a75 := Tryz.isAgg131
  z75 := Tryz.sizeOf131
  v75 := Tryz.zeroValue131
  t76 := Tryz.underlying132
  a76 := Tryz.isAgg132
  z76 := Tryz.sizeOf132
  v76 := Tryz.zeroValue132
  t127 := Tryz.underlying142
  a127 := Tryz.isAgg142
  z127 := Tryz.sizeOf142
  v127 := Tryz.zeroValue142
  t164 := Tryz.underlying152
  a164 := Tryz.isAgg152
  z164 := Tryz.sizeOf152
  v164 := Tryz.zeroValue152 }
theorem Tryz.Builder_Extra_156 : Builder.Extra Tryz.prog Tryz.lays156_ren := {
  sizeBuilder := by kernel_rfl
  liesBuilder := by kernel_rfl
  t5 := Tryz.underlying5
  a5 := Tryz.isAgg5
  z5 := Tryz.sizeOf5
  v5 := Tryz.zeroValue5
  infoByte := by kernel_rfl
  cellsByte := by kernel_rfl
  sizeByte := by kernel_rfl
  neB5 := by decide }
open Go.RowKit in
/-- No element: the empty string; the world is as it was. (Whatever the slice's address and capacity: a nil slice too.) (LAID: no walk: one application.) -/
theorem Tryz.strings_Join_none (a : Option Addr) (c : Nat) (sep : ByteArray) (w : World) :
    Calls Tryz.prog 79 #[.slice a 0 c, .string sep] w fun e w' => e = .returned (.string ⟨#[]⟩) ∧ w' = w := Any.strings_Join_none Tryz.lays156 Tryz.Builder_Extra_156 a c sep w
open Go.RowKit in
/-- strings.Join: "Join concatenates the elements of its first argument to create a single string. The separator string sep is placed between elements in the resulting string.": HOWEVER MANY ELEMENTS. Below the heap's end the world is as it was. (LAID: no walk: one application.) -/
theorem Tryz.strings_Join (bk o c : Nat) (xs : List ByteArray) (sep : ByteArray) (w : World) (hcells : ∀ (j : Nat) x, xs[j]? = some x → w.cell? ⟨bk, o + j, none⟩ = some (.string x)) (hbk : bk < w.heap.size) (hN : xs.length ≤ 140737488355328) (hcap : xs.length ≤ c) (hlen : (Lib.join (xs.map (·.data.toList)) sep.data.toList).length ≤ 140737488355328) :
    Calls Tryz.prog 79 #[.slice (some ⟨bk, o, none⟩) xs.length c, .string sep] w fun e w' => e = .returned (.string ⟨(Lib.join (xs.map (·.data.toList)) sep.data.toList).toArray⟩) ∧ Below w.heap.size w w' := Any.strings_Join Tryz.lays156 Tryz.Builder_Extra_156 bk o c xs sep w hcells hbk hN hcap hlen
def Tryz.lays219_ren : Go.Shelf.Ren := ⟨fun | 219 => 105 | 217 => 114 | 225 => 115 | 224 => 116 | 267 => 117 | 266 => 130 | 314 => 131 | n => n, fun | 9 => 9 | 3 => 3 | 4 => 4 | 5 => 5 | 46 => 22 | 146 => 163 | 51 => 23 | n => n, fun | 1 => 0 | n => n⟩
theorem Tryz.lays219 : Go.Proofs.Lays.n219 Tryz.prog Tryz.lays219_ren := {
  mixed := by kernel_rfl
  f217 := Tryz.func114.trans (congrArg some (by kernel_rfl))
  f219 := Tryz.func105.trans (congrArg some (by kernel_rfl))
  f224 := Tryz.func116.trans (congrArg some (by kernel_rfl))
  f225 := Tryz.func115.trans (congrArg some (by kernel_rfl))
  f266 := Tryz.func130.trans (congrArg some (by kernel_rfl))
  f267 := Tryz.func117.trans (congrArg some (by kernel_rfl))
  f314 := Tryz.func131.trans (congrArg some (by kernel_rfl))
  t3 := Tryz.underlying3
  a3 := Tryz.isAgg3
  z3 := Tryz.sizeOf3
  v3 := Tryz.zeroValue3
  t4 := Tryz.underlying4
  a4 := Tryz.isAgg4
  z4 := Tryz.sizeOf4
  v4 := Tryz.zeroValue4
  t5 := Tryz.underlying5
  a5 := Tryz.isAgg5
  z5 := Tryz.sizeOf5
  v5 := Tryz.zeroValue5
  t9 := Tryz.underlying9
  a9 := Tryz.isAgg9
  z9 := Tryz.sizeOf9
  v9 := Tryz.zeroValue9
  t46 := Tryz.underlying22
  a46 := Tryz.isAgg22
  z46 := Tryz.sizeOf22
  v46 := Tryz.zeroValue22
  t51 := Tryz.underlying23
  a51 := Tryz.isAgg23
  z51 := Tryz.sizeOf23
  v51 := Tryz.zeroValue23
  t146 := Tryz.underlying163
  a146 := Tryz.isAgg163
  z146 := Tryz.sizeOf163
  v146 := Tryz.zeroValue163
  g1 := by kernel_rfl }
open Go.RowKit Go.Lib in
/-- internal/stringslite.Index (what strings.Index calls) AT A substr OF ONE BYTE c: IT RETURNS 'Lib.indexByte s c'; the world is as it was. (LAID: no walk: one application.) -/
theorem Tryz.stringslite_Index_one (s : ByteArray) (c : UInt8) (w : World) :
    Calls Tryz.prog 105 #[.string s, .string ⟨#[c]⟩] w fun e w' => e = .returned (.int .i64 (Lib.indexByte s.data.toList c)) ∧ w' = w := Any.stringslite_Index_one Tryz.lays219 s c w
def Tryz.lays143_ren : Go.Shelf.Ren := ⟨fun | 143 => 104 | 219 => 105 | 217 => 114 | 225 => 115 | 224 => 116 | 267 => 117 | 266 => 130 | 314 => 131 | n => n, fun | 9 => 9 | 3 => 3 | 4 => 4 | 5 => 5 | 46 => 22 | 146 => 163 | 51 => 23 | n => n, fun | 1 => 0 | n => n⟩
theorem Tryz.lays143 : Go.Proofs.Lays.n143 Tryz.prog Tryz.lays143_ren := {
  mixed := by kernel_rfl
  f143 := Tryz.func104.trans (congrArg some (by kernel_rfl))
  f217 := Tryz.func114.trans (congrArg some (by kernel_rfl))
  f219 := Tryz.func105.trans (congrArg some (by kernel_rfl))
  f224 := Tryz.func116.trans (congrArg some (by kernel_rfl))
  f225 := Tryz.func115.trans (congrArg some (by kernel_rfl))
  f266 := Tryz.func130.trans (congrArg some (by kernel_rfl))
  f267 := Tryz.func117.trans (congrArg some (by kernel_rfl))
  f314 := Tryz.func131.trans (congrArg some (by kernel_rfl))
  t3 := Tryz.underlying3
  a3 := Tryz.isAgg3
  z3 := Tryz.sizeOf3
  v3 := Tryz.zeroValue3
  t4 := Tryz.underlying4
  a4 := Tryz.isAgg4
  z4 := Tryz.sizeOf4
  v4 := Tryz.zeroValue4
  t5 := Tryz.underlying5
  a5 := Tryz.isAgg5
  z5 := Tryz.sizeOf5
  v5 := Tryz.zeroValue5
  t9 := Tryz.underlying9
  a9 := Tryz.isAgg9
  z9 := Tryz.sizeOf9
  v9 := Tryz.zeroValue9
  t46 := Tryz.underlying22
  a46 := Tryz.isAgg22
  z46 := Tryz.sizeOf22
  v46 := Tryz.zeroValue22
  t51 := Tryz.underlying23
  a51 := Tryz.isAgg23
  z51 := Tryz.sizeOf23
  v51 := Tryz.zeroValue23
  t146 := Tryz.underlying163
  a146 := Tryz.isAgg163
  z146 := Tryz.sizeOf163
  v146 := Tryz.zeroValue163
  g1 := by kernel_rfl }
open Go.RowKit Go.Lib in
/-- strings.Index: "Index returns the index of the first instance of substr in s, or -1 if substr is not present in s.": AT A substr OF ONE BYTE c: IT RETURNS 'Lib.indexByte s c'; the world is as it was. (LAID: no walk: one application.) -/
theorem Tryz.strings_Index_one (s : ByteArray) (c : UInt8) (w : World) :
    Calls Tryz.prog 104 #[.string s, .string ⟨#[c]⟩] w fun e w' => e = .returned (.int .i64 (Lib.indexByte s.data.toList c)) ∧ w' = w := Any.strings_Index_one Tryz.lays143 s c w
def Tryz.lays138_ren : Go.Shelf.Ren := ⟨fun | 138 => 103 | 195 => 111 | 218 => 113 | 143 => 104 | 219 => 105 | 217 => 114 | 225 => 115 | 224 => 116 | 267 => 117 | 266 => 130 | 314 => 131 | n => n, fun | 9 => 9 | 3 => 3 | 4 => 4 | 5 => 5 | 0 => 0 | 46 => 22 | 146 => 163 | 51 => 23 | n => n, fun | 1 => 0 | n => n⟩
theorem Tryz.lays138 : Go.Proofs.Lays.n138 Tryz.prog Tryz.lays138_ren := {
  mixed := by kernel_rfl
  f138 := Tryz.func103.trans (congrArg some (by kernel_rfl))
  f143 := Tryz.func104.trans (congrArg some (by kernel_rfl))
  f195 := Tryz.func111.trans (congrArg some (by kernel_rfl))
  f217 := Tryz.func114.trans (congrArg some (by kernel_rfl))
  f218 := Tryz.func113.trans (congrArg some (by kernel_rfl))
  f219 := Tryz.func105.trans (congrArg some (by kernel_rfl))
  f224 := Tryz.func116.trans (congrArg some (by kernel_rfl))
  f225 := Tryz.func115.trans (congrArg some (by kernel_rfl))
  f266 := Tryz.func130.trans (congrArg some (by kernel_rfl))
  f267 := Tryz.func117.trans (congrArg some (by kernel_rfl))
  f314 := Tryz.func131.trans (congrArg some (by kernel_rfl))
  t0 := Tryz.underlying0
  a0 := Tryz.isAgg0
  z0 := Tryz.sizeOf0
  v0 := Tryz.zeroValue0
  t3 := Tryz.underlying3
  a3 := Tryz.isAgg3
  z3 := Tryz.sizeOf3
  v3 := Tryz.zeroValue3
  t4 := Tryz.underlying4
  a4 := Tryz.isAgg4
  z4 := Tryz.sizeOf4
  v4 := Tryz.zeroValue4
  t5 := Tryz.underlying5
  a5 := Tryz.isAgg5
  z5 := Tryz.sizeOf5
  v5 := Tryz.zeroValue5
  t9 := Tryz.underlying9
  a9 := Tryz.isAgg9
  z9 := Tryz.sizeOf9
  v9 := Tryz.zeroValue9
  t46 := Tryz.underlying22
  a46 := Tryz.isAgg22
  z46 := Tryz.sizeOf22
  v46 := Tryz.zeroValue22
  t51 := Tryz.underlying23
  a51 := Tryz.isAgg23
  z51 := Tryz.sizeOf23
  v51 := Tryz.zeroValue23
  t146 := Tryz.underlying163
  a146 := Tryz.isAgg163
  z146 := Tryz.sizeOf163
  v146 := Tryz.zeroValue163
  g1 := by kernel_rfl }
open Go.RowKit Go.Lib in
/-- strings.Count AT A substr OF ONE BYTE ('hp'): "Count counts the number of non-overlapping instances of substr in s.": IT RETURNS 'Lib.countByte s (that byte)'; the world is as it was. ✋ NO CONTRACT HERE YET at an empty substr (utf8.RuneCountInString) or at a longer one (a loop over strings.Index). (LAID: no walk: one application.) -/
theorem Tryz.strings_Count_one (s : ByteArray) (c : UInt8) (w : World) :
    Calls Tryz.prog 103 #[.string s, .string ⟨#[c]⟩] w fun e w' => e = .returned (.int .i64 (Lib.countByte s.data.toList c)) ∧ w' = w := Any.strings_Count_one Tryz.lays138 s c w
end Go.Proofs

/-
  slices.Delete of one element at a slice of unknown capacity. No conditions.
-/
namespace Go.Proofs.YtlhbidbdmdcdeaaGreatDoor
open Go Go.Abs Go.Abs.F
set_option linter.unusedVariables false
abbrev zI : List S := [.int .i64 0, .int .i64 0, .int .i64 0, .int .i64 0, .int .u32 0]

theorem aBounds_lhm {len cap lo hi m : Nat} (h : lo ≤ hi) (k : hi ≤ m) (l : m ≤ cap) : aBounds len cap (some (I .i64 lo)) (some (I .i64 hi)) (some (I .i64 m)) = some (lo, hi, m) := by
  have e : ∀ {a b : Nat}, a ≤ b → aBnd (I .i64 a) b = some a := fun {a b} h => by
    have h1 : (a : Int) ≤ (b : Int) := by omega
    simp [aBnd, h]
  delta aBounds
  dsimp only
  rw [e l]
  dsimp only
  rw [e k]
  dsimp only
  rw [e h]

theorem del_sound : CallSound Tryz.prog (delP 75 5 zI) := by
  refine grown_sound (plain_sound Tryz.prog 8 1) ?_
  intro f ts σ r h
  unfold delP at h
  split at h
  · cases h
  · rename_i hf
    have hf' := Nat.eq_of_beq_eq_true hf
    subst hf'
    split at h
    · rename_i i o n q a b
      split at h
      · rename_i vs hb
        split at h
        · rename_i hd
          have hd' := of_decide_eq_true hd
          obtain ⟨rfl, ha, rfl, hbn, hn, hv⟩ := hd'
          cases h
          obtain ⟨k, rfl⟩ : ∃ k : Nat, a = k := ⟨a.toNat, by omega⟩
          refine ⟨i, o, n, 5, n - 1, _, _, _, rfl, hb, rfl, fun c hc => ?_⟩
          have hkn : k + 1 ≤ n := by omega
          rw [Int.toNat_natCast]
          rw [(runQ_body rfl Tryz.func75 (by kernel_rfl)).trans (f75_eq _ _ _ _ _ _)]
          unfold f75
          have ek : ((k : Nat) : Int) + 1 = ((k + 1 : Nat) : Int) := by omega
          rw [ek]
          have p1 : aPieceSl 5 (Z (.sl i o n (.known c))) (some (I .i64 ((k : Nat) : Int))) (some (I .i64 ((k + 1 : Nat) : Int))) (some (I .i64 ((n : Nat) : Int))) = some (Z (.sl i (if n = k then o else o + k * 5) (k + 1 - k) (.known (n - k)))) := by
            simp only [aPieceSl, aBounds_lhm (show k ≤ k + 1 by omega) hkn hc]
          have p2 : aPieceSl 5 (Z (.sl i o n (.known c))) none (some (I .i64 ((k : Nat) : Int))) none = some (Z (.sl i o k (.known c))) := by
            simp only [aPieceSl, aBounds_hi (show k ≤ c by omega), Nat.zero_mul, Nat.add_zero, ite_self, Nat.sub_zero]
          have p3 : aPieceSl 5 (Z (.sl i o n (.known c))) (some (I .i64 ((k + 1 : Nat) : Int))) none none = some (Z (.sl i (if c = k + 1 then o else o + (k + 1) * 5) (n - (k + 1)) (.known (c - (k + 1))))) := by
            simp only [aPieceSl, aBounds_lo hkn hc]
          have src : aSrc 5 (Z (.sl i (if c = k + 1 then o else o + (k + 1) * 5) (n - (k + 1)) (.known (c - (k + 1))))) σ.get = some (n - (k + 1), (vs.drop (o + (k + 1) * 5)).take ((n - 1 - k) * 5)) := by
            by_cases hz : n - (k + 1) = 0
            · have : n - 1 - k = 0 := by omega
              simp [aSrc, hz, this]
            · have h1 : ¬ c = k + 1 := by omega
              have h2 : o + (k + 1) * 5 + (n - (k + 1)) * 5 ≤ vs.length := by omega
              have h3 : n - 1 - k = n - (k + 1) := by omega
              simp only [aSrc, if_neg hz, if_neg h1, hb, if_pos h2, h3]
          obtain ⟨v1, hv1⟩ : ∃ v1, v1 = setRange vs (o + k * 5) ((vs.drop (o + (k + 1) * 5)).take ((n - 1 - k) * 5)) := ⟨_, rfl⟩
          have hl1 : v1.length = vs.length := by rw [hv1, setRange_length]
          have ap : aAppend 5 40 (Z (.sl i o k (.known c))) (Z (.sl i (if c = k + 1 then o else o + (k + 1) * 5) (n - (k + 1)) (.known (c - (k + 1))))) σ = some (Z (.sl i o (n - 1) (.known c)), σ.set i (.cells true v1)) := by
            have h1 : (n - 1) * 40 ≤ 140737488355328 := by omega
            have h2 : n - 1 ≤ c := by omega
            have h3 : True ∧ o + k * 5 + (n - (k + 1)) * 5 ≤ vs.length := ⟨trivial, by omega⟩
            have h4 : k + (n - (k + 1)) = n - 1 := by omega
            simp only [aAppend, src, if_neg (show ¬ (5 : Nat) = 0 by decide), hb, h4]
            rw [if_pos h1, if_pos h2, if_pos h3, hv1]
          have p4 : aPieceSl 5 (Z (.sl i o (n - 1) (.known c))) (some (I .i64 ((n - 1 : Nat) : Int))) (some (I .i64 ((n : Nat) : Int))) none = some (Z (.sl i (o + (n - 1) * 5) (n - (n - 1)) (.known (c - (n - 1))))) := by
            have h1 : ¬ c = n - 1 := by omega
            simp only [aPieceSl, aBounds_lh (show n - 1 ≤ n by omega) hc, if_neg h1]
          have cl : aClear 5 zI (Z (.sl i (o + (n - 1) * 5) (n - (n - 1)) (.known (c - (n - 1))))) (σ.set i (.cells true v1)) = some (tt, (σ.set i (.cells true v1)).set i (.cells true (setRange v1 (o + (n - 1) * 5) zI))) := by
            have h1 : n - (n - 1) = 1 := by omega
            have h2 : o + (n - 1) * 5 + 1 * 5 ≤ v1.length := by omega
            simp only [aClear, h1, if_neg (show ¬ (1 : Nat) = 0 by decide), St.get_set_same, if_pos h2]
            rfl
          have le1 : aLenSl (Z (.sl i o n (.known c))) = some (I .i64 ((n : Nat) : Int)) := rfl
          have le2 : aLenSl (Z (.sl i o (n - 1) (.known c))) = some (I .i64 ((n - 1 : Nat) : Int)) := rfl
          simp only [zI] at cl ⊢
          clear hc hn hbn hv hkn ha
          have nk : ¬ (((k : Nat) : Int) = ((k + 1 : Nat) : Int)) := by omega
          rw [← hv1]
          generalize ((n - 1 : Nat) : Int) = N1 at *
          generalize ((n : Nat) : Int) = NN at *
          generalize ((k + 1 : Nat) : Int) = K1 at *
          generalize ((k : Nat) : Int) = K at *
          simp only [le1, le2, bd_some, p1, eql_int, decide_eq_false nk, br_false, p2, p3, ap, bd2_some, p4, cl]
        · cases h
      · cases h
    · cases h
end Go.Proofs.YtlhbidbdmdcdeaaGreatDoor

/-
  slices.Insert of one element ahead of another at a slice of unknown capacity. No conditions.
-/
namespace Go.Proofs.YtlhbidbdmdcdeaaGreatDoor
open Go Go.Abs Go.Abs.F
set_option linter.unusedVariables false

theorem over_ok : overT Tryz.prog 89 = true := by kernel_rfl

theorem ins_grow (a w b z : List S) (hz : z.length = w.length + b.length) : setRange (setRange (a ++ z) a.length w) (a.length + w.length) b = a ++ w ++ b := by
  rw [setRange_eq (a ++ z) a.length w (by simp; omega), List.take_left, setRange_eq _ _ b (by simp; omega)]
  rw [List.take_left' (by simp), List.drop_eq_nil_of_le (by simp; omega), List.append_nil]

theorem ins_room (a w b r : List S) (hr : w.length ≤ r.length) : (setRange (setRange (a ++ b ++ r) (a.length + w.length) b) a.length w).take (a.length + w.length + b.length) = a ++ w ++ b := by
  have hX : ∃ q, setRange (a ++ b ++ r) (a.length + w.length) b = a ++ (q ++ b ++ r.drop w.length) ∧ q.length = w.length := by
    refine ⟨(b ++ r).take w.length, ?_, by simp; omega⟩
    rw [setRange_eq _ _ b (by simp; omega), List.append_assoc a b r, List.take_append, List.drop_append]
    have e1 : a.take (a.length + w.length) = a := List.take_of_length_le (by omega)
    have e2 : a.drop (a.length + w.length + b.length) = [] := List.drop_eq_nil_of_le (by omega)
    have e3 : a.length + w.length + b.length - a.length = b.length + w.length := by omega
    rw [e1, e2, e3, Nat.add_sub_cancel_left, List.nil_append, List.drop_append, List.drop_eq_nil_of_le (by omega), List.nil_append, Nat.add_sub_cancel_left]
    simp only [List.append_assoc]
  obtain ⟨q, hq, hl⟩ := hX
  rw [hq, setRange_eq _ _ w (by simp; omega), List.take_left, List.drop_append, List.drop_eq_nil_of_le (by omega), List.nil_append, Nat.add_sub_cancel_left, List.append_assoc q, List.drop_left' hl, ← List.append_assoc (a ++ w), List.take_left' (by simp; omega)]

section
variable {σ : St} {i j p n k c : Nat} {vs us : List S}

theorem ins_facts (hkn : k < n) (hn : n ≤ 1000000) :
    aBin .eql (I .i64 1) (I .i64 0) = some (B false) ∧ aBin .eql (I .i64 ((k : Nat) : Int)) (I .i64 ((n : Nat) : Int)) = some (B false) ∧ aBin .add (I .i64 ((n : Nat) : Int)) (I .i64 1) = some (I .i64 ((n + 1 : Nat) : Int)) ∧
      aBin .add (I .i64 ((k : Nat) : Int)) (I .i64 1) = some (I .i64 ((k + 1 : Nat) : Int)) ∧ aBin .sub (I .i64 ((n + 1 : Nat) : Int)) (I .i64 ((k : Nat) : Int)) = some (I .i64 ((n + 1 - k : Nat) : Int)) := by
  have h1 : ¬ (((k : Nat) : Int) = ((n : Nat) : Int)) := by omega
  have h2 : IntKind.i64.wrap ((n : Int) + 1) = ((n + 1 : Nat) : Int) := by rw [wrap_in _ (by omega) (by omega)]; omega
  have h3 : IntKind.i64.wrap ((k : Int) + 1) = ((k + 1 : Nat) : Int) := by rw [wrap_in _ (by omega) (by omega)]; omega
  have h4 : IntKind.i64.wrap (((n + 1 : Nat) : Int) - (k : Int)) = ((n + 1 - k : Nat) : Int) := by rw [wrap_in _ (by omega) (by omega)]; omega
  refine ⟨rfl, ?_, ?_, ?_, ?_⟩
  · rw [eql_int, decide_eq_false h1]
  · rw [add_int, h2]
  · rw [add_int, h3]
  · rw [sub_int, h4]

theorem insN_run (d : Nat) (wf : σ.wf) (hi : σ.get i = some (.cells true vs)) (hj : σ.get j = some (.cells true us)) (hkn : k < n) (hn : n ≤ 1000000) (hv : n * 5 ≤ vs.length) (hij : i ≠ j) (hp : p + 5 ≤ us.length) :
    ∃ τ, f74 (runQ Tryz.prog 8 noPrim d) 8 (Z (.sl i 0 n (.known n))) (I .i64 k) (Z (.sl j p 1 (.known 1))) σ = some (Z (.sl σ.size 0 (n + 1) (.grown 5)), τ) ∧ τ.size = σ.size + 1 ∧
      τ.get σ.size = some (.cells true (vs.take (k * 5) ++ (us.drop p).take 5 ++ (vs.drop (k * 5)).take ((n - k) * 5))) ∧ ∀ b, b < σ.size → τ.get b = σ.get b := by
  obtain ⟨f1, f2, f3, f4, f5⟩ := ins_facts hkn hn
  obtain ⟨N, hN⟩ : ∃ N, N = σ.size := ⟨_, rfl⟩
  obtain ⟨a, ha⟩ : ∃ a, a = vs.take (k * 5) := ⟨_, rfl⟩
  obtain ⟨w, hw⟩ : ∃ w, w = (us.drop p).take 5 := ⟨_, rfl⟩
  obtain ⟨b, hb⟩ : ∃ b, b = (vs.drop (k * 5)).take ((n - k) * 5) := ⟨_, rfl⟩
  have hla : a.length = k * 5 := by rw [ha, List.length_take]; omega
  have hlw : w.length = 5 := by rw [hw]; simp; omega
  have hlb : b.length = (n - k) * 5 := by rw [hb]; simp; omega
  obtain ⟨z, hz⟩ : ∃ z, z = zeros (n + 1 - k) zI := ⟨_, rfl⟩
  have hlz : z.length = (n + 1 - k) * 5 := by rw [hz]; exact zeros_len (e := 5) rfl _
  have le0 : aLenSl (Z (.sl i 0 n (.known n))) = some (I .i64 ((n : Nat) : Int)) := rfl
  have le2 : aLenSl (Z (.sl j p 1 (.known 1))) = some (I .i64 1) := rfl
  have cp : aCap (Z (.sl i 0 n (.known n))) = some (I .i64 ((n : Nat) : Int)) := rfl
  have gt : aBin .gtr (I .i64 ((n + 1 : Nat) : Int)) (I .i64 ((n : Nat) : Int)) = some (B true) := by
    rw [gtr_int, decide_eq_true (by omega)]
  have p1 : aPieceSl 5 (Z (.sl i 0 n (.known n))) (some (I .i64 ((k : Nat) : Int))) none none = some (Z (.sl i (k * 5) (n - k) (.known (n - k)))) := by
    have h1 : ¬ n = k := by omega
    simp only [aPieceSl, aBounds_lo (show k ≤ n by omega) (Nat.le_refl n), if_neg h1, Nat.zero_add]
  have p2 : aPieceSl 5 (Z (.sl i 0 n (.known n))) none (some (I .i64 ((k : Nat) : Int))) none = some (Z (.sl i 0 k (.known n))) := by
    simp only [aPieceSl, aBounds_hi (show k ≤ n by omega), Nat.zero_mul, Nat.add_zero, ite_self, Nat.sub_zero]
  obtain ⟨s1, hs1⟩ : ∃ s1, s1 = σ.push (.cells true (a ++ z)) := ⟨_, rfl⟩
  have gr : aGrow 5 40 [.int .i64 0, .int .i64 0, .int .i64 0, .int .i64 0, .int .u32 0] (Z (.sl i 0 k (.known n))) (I .i64 ((n + 1 - k : Nat) : Int)) σ = some (Z (.sl N 0 (n + 1) (.grown 5)), s1) := by
    have h1 : 0 < ((n + 1 - k : Nat) : Int) ∧ k ≤ n ∧ n < k + ((n + 1 - k : Nat) : Int).toNat ∧ (k + ((n + 1 - k : Nat) : Int).toNat) * 40 ≤ 140737488355328 ∧ (5 : Nat) ≠ 0 ∧ 0 + k * 5 ≤ vs.length := by
      rw [Int.toNat_natCast]
      refine ⟨by omega, by omega, by omega, by omega, by decide, by omega⟩
    have h2 : k + ((n + 1 - k : Nat) : Int).toNat = n + 1 := by omega
    simp only [aGrow, hi]
    rw [if_pos h1, h2, Int.toNat_natCast, List.drop_zero, ← ha, hs1, hz, hN]
  have g1 : s1.get N = some (.cells true (a ++ z)) := by rw [hs1, hN]; exact St.get_push_same _ _
  have o1 : ∀ q, q ≠ N → s1.get q = σ.get q := fun q hq => by rw [hs1]; exact St.get_push_ne _ _ (by rw [← hN]; exact hq)
  have p3 : aPieceSl 5 (Z (.sl N 0 (n + 1) (.grown 5))) (some (I .i64 ((k : Nat) : Int))) none none = some (Z (.sl N (k * 5) (n + 1 - k) (.grown 5))) := by
    simp only [aPieceSl, aBounds_lo (show k ≤ n + 1 by omega) (Nat.le_refl (n + 1)), if_pos trivial, if_pos (show k < n + 1 by omega), Nat.zero_add]
  have p4 : aPieceSl 5 (Z (.sl N 0 (n + 1) (.grown 5))) (some (I .i64 ((k + 1 : Nat) : Int))) none none = some (Z (.sl N ((k + 1) * 5) (n - k) (.grown 5))) := by
    have h1 : n + 1 - (k + 1) = n - k := by omega
    simp only [aPieceSl, aBounds_lo (show k + 1 ≤ n + 1 by omega) (Nat.le_refl (n + 1)), if_pos trivial, if_pos (show k + 1 < n + 1 by omega), Nat.zero_add, h1]
  have jN : j ≠ N := by have := wf.lt hj; omega
  have iN : i ≠ N := by have := wf.lt hi; omega
  have hj1 : s1.get j = some (.cells true us) := by rw [o1 j jN]; exact hj
  have src1 : aSrc 5 (Z (.sl j p 1 (.known 1))) s1.get = some (1, w) := by
    simp only [aSrc, if_neg (show ¬ (1 : Nat) = 0 by decide), hj1, Nat.one_mul, if_pos hp, hw]
  have hm1 : Nat.min 1 (n + 1 - k) = 1 := by show min 1 (n + 1 - k) = 1; omega
  obtain ⟨A1, hA1⟩ : ∃ A1, A1 = setRange (a ++ z) (k * 5) w := ⟨_, rfl⟩
  obtain ⟨s2, hs2⟩ : ∃ s2, s2 = s1.set N (.cells true A1) := ⟨_, rfl⟩
  have cy1 : aCopy 5 (Z (.sl N (k * 5) (n + 1 - k) (.grown 5))) (Z (.sl j p 1 (.known 1))) s1 = some (I .i64 ((1 : Nat) : Int), s2) := by
    have h1 : k * 5 + 1 * 5 ≤ (a ++ z).length := by simp; omega
    have h2 : w.take (1 * 5) = w := List.take_of_length_le (by omega)
    simp only [aCopy, src1, g1, hm1]
    rw [if_pos h1, h2, hs2, hA1]
  have g2 : s2.get N = some (.cells true A1) := by rw [hs2]; exact St.get_set_same _ _ _
  have hi2 : s2.get i = some (.cells true vs) := by rw [hs2, St.get_set_ne _ _ iN, o1 i iN]; exact hi
  have hnk : ¬ n - k = 0 := by omega
  have src2 : aSrc 5 (Z (.sl i (k * 5) (n - k) (.known (n - k)))) s2.get = some (n - k, b) := by
    have h1 : k * 5 + (n - k) * 5 ≤ vs.length := by omega
    simp only [aSrc, if_neg hnk, hi2, if_pos h1, hb]
  have hm2 : Nat.min (n - k) (n - k) = n - k := by show min (n - k) (n - k) = n - k; omega
  obtain ⟨A2, hA2⟩ : ∃ A2, A2 = setRange A1 ((k + 1) * 5) b := ⟨_, rfl⟩
  obtain ⟨s3, hs3⟩ : ∃ s3, s3 = s2.set N (.cells true A2) := ⟨_, rfl⟩
  have cy2 : aCopy 5 (Z (.sl N ((k + 1) * 5) (n - k) (.grown 5))) (Z (.sl i (k * 5) (n - k) (.known (n - k)))) s2 = some (I .i64 ((n - k : Nat) : Int), s3) := by
    have h1 : (k + 1) * 5 + (n - k) * 5 ≤ A1.length := by rw [hA1, setRange_length]; simp; omega
    have h2 : b.take ((n - k) * 5) = b := List.take_of_length_le (by omega)
    simp only [aCopy, src2, g2, hm2]
    rw [if_pos h1, h2, hs3, hA2]
  have hfin : A2 = a ++ w ++ b := by
    have := ins_grow a w b z (by omega)
    rw [hla, hlw] at this
    rw [hA2, hA1, Nat.add_mul, Nat.one_mul]
    exact this
  refine ⟨s3, ?_, by rw [hs3, hs2, hs1]; rfl, by rw [← hN, hs3, St.get_set_same, hfin, ha, hw, hb], fun q hq => ?_⟩
  · unfold f74
    rw [← hN]
    clear hi hj hi2 hj1 hv hp wf
    have br1 : ((1 : Nat) : Int) = 1 := rfl
    rw [br1] at cy1
    generalize n + 1 - k = M at *
    generalize ((n + 1 : Nat) : Int) = N1 at *
    generalize ((k + 1 : Nat) : Int) = K1 at *
    generalize ((M : Nat) : Int) = MI at *
    generalize ((n : Nat) : Int) = NI at *
    generalize ((k : Nat) : Int) = KI at *
    simp only [p1, le0, le2, bd_some, f1, br_false, f2, f3, cp, gt, br_true, p2, f5, gr, bd2_some, p3, cy1, f4, p4, cy2]
  · rw [hs3, hs2, St.get_set_ne _ _ (by omega), St.get_set_ne _ _ (by omega), o1 q (by omega)]

theorem insR_run (d : Nat) (hi : σ.get i = some (.cells true vs)) (hj : σ.get j = some (.cells true us)) (hkn : k < n) (hn : n ≤ 1000000) (hc : n + 1 ≤ c) (hv : vs.length = c * 5) (hij : i ≠ j) (hp : p + 5 ≤ us.length) :
    ∃ τ B, f74 (runQ Tryz.prog 8 noPrim d) 8 (Z (.sl i 0 n (.known c))) (I .i64 k) (Z (.sl j p 1 (.known 1))) σ = some (Z (.sl i 0 (n + 1) (.known c)), τ) ∧ τ.size = σ.size ∧
      τ.get i = some (.cells true B) ∧ B.length = vs.length ∧ B.take ((n + 1) * 5) = vs.take (k * 5) ++ (us.drop p).take 5 ++ (vs.drop (k * 5)).take ((n - k) * 5) ∧ ∀ b, b ≠ i → τ.get b = σ.get b := by
  obtain ⟨f1, f2, f3, f4, f5⟩ := ins_facts hkn hn
  obtain ⟨a, ha⟩ : ∃ a, a = vs.take (k * 5) := ⟨_, rfl⟩
  obtain ⟨w, hw⟩ : ∃ w, w = (us.drop p).take 5 := ⟨_, rfl⟩
  obtain ⟨b, hb⟩ : ∃ b, b = (vs.drop (k * 5)).take ((n - k) * 5) := ⟨_, rfl⟩
  obtain ⟨r, hr⟩ : ∃ r, r = vs.drop (n * 5) := ⟨_, rfl⟩
  have hla : a.length = k * 5 := by rw [ha, List.length_take]; omega
  have hlw : w.length = 5 := by rw [hw]; simp; omega
  have hlb : b.length = (n - k) * 5 := by rw [hb]; simp; omega
  have hlr : 5 ≤ r.length := by rw [hr]; simp; omega
  have hvs : vs = a ++ b ++ r := by
    have h1 : vs.drop (k * 5) = b ++ r := by
      rw [hb, hr]
      have : n * 5 = k * 5 + (n - k) * 5 := by omega
      rw [this, ← List.drop_drop]
      exact (List.take_append_drop _ _).symm
    rw [List.append_assoc, ← h1, ha]
    exact (List.take_append_drop _ _).symm
  have le0 : aLenSl (Z (.sl i 0 n (.known c))) = some (I .i64 ((n : Nat) : Int)) := rfl
  have le2 : aLenSl (Z (.sl j p 1 (.known 1))) = some (I .i64 1) := rfl
  have cp : aCap (Z (.sl i 0 n (.known c))) = some (I .i64 ((c : Nat) : Int)) := rfl
  have gt : aBin .gtr (I .i64 ((n + 1 : Nat) : Int)) (I .i64 ((c : Nat) : Int)) = some (B false) := by
    rw [gtr_int, decide_eq_false (by omega)]
  have p0 : aPieceSl 5 (Z (.sl i 0 n (.known c))) (some (I .i64 ((k : Nat) : Int))) none none = some (Z (.sl i (k * 5) (n - k) (.known (c - k)))) := by
    have h1 : ¬ c = k := by omega
    simp only [aPieceSl, aBounds_lo (show k ≤ n by omega) (show n ≤ c by omega), if_neg h1, Nat.zero_add]
  have p1 : aPieceSl 5 (Z (.sl i 0 n (.known c))) none (some (I .i64 ((n + 1 : Nat) : Int))) none = some (Z (.sl i 0 (n + 1) (.known c))) := by
    simp only [aPieceSl, aBounds_hi hc, Nat.zero_mul, Nat.add_zero, ite_self, Nat.sub_zero]
  have p2 : aPieceSl 5 (Z (.sl i 0 (n + 1) (.known c))) (some (I .i64 ((k + 1 : Nat) : Int))) none none = some (Z (.sl i ((k + 1) * 5) (n - k) (.known (c - (k + 1))))) := by
    have h1 : ¬ c = k + 1 := by omega
    have h2 : n + 1 - (k + 1) = n - k := by omega
    simp only [aPieceSl, aBounds_lo (show k + 1 ≤ n + 1 by omega) hc, if_neg h1, Nat.zero_add, h2]
  have p3 : aPieceSl 5 (Z (.sl i 0 (n + 1) (.known c))) (some (I .i64 ((k : Nat) : Int))) none none = some (Z (.sl i (k * 5) (n + 1 - k) (.known (c - k)))) := by
    have h1 : ¬ c = k := by omega
    simp only [aPieceSl, aBounds_lo (show k ≤ n + 1 by omega) hc, if_neg h1, Nat.zero_add]
  have ov : xOver Tryz.prog 89 [Z (.sl j p 1 (.known 1)), Z (.sl i ((k + 1) * 5) (n - k) (.known (c - (k + 1))))] σ = some (B false, σ) := by
    have h1 : Nat.beq j i = false := by
      cases h : Nat.beq j i with
      | false => rfl
      | true => exact absurd (Nat.eq_of_beq_eq_true h).symm hij
    simp only [xOver, aOver, hi, hj, h1, over_ok]
  have no : aUn .not (B false) = some (B true) := rfl
  have src1 : aSrc 5 (Z (.sl i (k * 5) (n + 1 - k) (.known (c - k)))) σ.get = some (n + 1 - k, (vs.drop (k * 5)).take ((n + 1 - k) * 5)) := by
    have h1 : k * 5 + (n + 1 - k) * 5 ≤ vs.length := by omega
    simp only [aSrc, if_neg (show ¬ n + 1 - k = 0 by omega), hi, if_pos h1]
  have hm1 : Nat.min (n + 1 - k) (n - k) = n - k := by show min (n + 1 - k) (n - k) = n - k; omega
  have hbt : ((vs.drop (k * 5)).take ((n + 1 - k) * 5)).take ((n - k) * 5) = b := by
    rw [List.take_take, hb]
    congr 1; omega
  obtain ⟨A1, hA1⟩ : ∃ A1, A1 = setRange vs ((k + 1) * 5) b := ⟨_, rfl⟩
  obtain ⟨s1, hs1⟩ : ∃ s1, s1 = σ.set i (.cells true A1) := ⟨_, rfl⟩
  have cy1 : aCopy 5 (Z (.sl i ((k + 1) * 5) (n - k) (.known (c - (k + 1))))) (Z (.sl i (k * 5) (n + 1 - k) (.known (c - k)))) σ = some (I .i64 ((n - k : Nat) : Int), s1) := by
    have h1 : (k + 1) * 5 + (n - k) * 5 ≤ vs.length := by omega
    simp only [aCopy, src1, hi, hm1]
    rw [if_pos h1, hbt, hs1, hA1]
  have g1 : s1.get i = some (.cells true A1) := by rw [hs1]; exact St.get_set_same _ _ _
  have hj1 : s1.get j = some (.cells true us) := by rw [hs1, St.get_set_ne _ _ (fun h => hij h.symm)]; exact hj
  have src2 : aSrc 5 (Z (.sl j p 1 (.known 1))) s1.get = some (1, w) := by
    simp only [aSrc, if_neg (show ¬ (1 : Nat) = 0 by decide), hj1, Nat.one_mul, if_pos hp, hw]
  have hm2 : Nat.min 1 (n + 1 - k) = 1 := by show min 1 (n + 1 - k) = 1; omega
  obtain ⟨A2, hA2⟩ : ∃ A2, A2 = setRange A1 (k * 5) w := ⟨_, rfl⟩
  obtain ⟨s2, hs2⟩ : ∃ s2, s2 = s1.set i (.cells true A2) := ⟨_, rfl⟩
  have hl1 : A1.length = vs.length := by rw [hA1, setRange_length]
  have cy2 : aCopy 5 (Z (.sl i (k * 5) (n + 1 - k) (.known (c - k)))) (Z (.sl j p 1 (.known 1))) s1 = some (I .i64 ((1 : Nat) : Int), s2) := by
    have h1 : k * 5 + 1 * 5 ≤ A1.length := by omega
    have h2 : w.take (1 * 5) = w := List.take_of_length_le (by omega)
    simp only [aCopy, src2, g1, hm2]
    rw [if_pos h1, h2, hs2, hA2]
  have hfin : A2.take ((n + 1) * 5) = a ++ w ++ b := by
    have := ins_room a w b r (by omega)
    rw [← hvs, hla, hlw, hlb] at this
    have e1 : k * 5 + 5 = (k + 1) * 5 := by omega
    have e2 : (k + 1) * 5 + (n - k) * 5 = (n + 1) * 5 := by omega
    rw [e1, e2] at this
    rw [hA2, hA1]
    exact this
  refine ⟨s2, A2, ?_, by rw [hs2, hs1]; simp, by rw [hs2]; exact St.get_set_same _ _ _, by rw [hA2, setRange_length, hl1], by rw [hfin, ha, hw, hb], fun q hq => by rw [hs2, hs1, St.get_set_ne _ _ hq, St.get_set_ne _ _ hq]⟩
  unfold f74
  clear hi hj hj1 hv hp
  have br1 : ((1 : Nat) : Int) = 1 := rfl
  rw [br1] at cy2
  generalize ((n - k : Nat) : Int) = NK at *
  generalize ((n + 1 : Nat) : Int) = N1 at *
  generalize ((k + 1 : Nat) : Int) = K1 at *
  generalize ((c : Nat) : Int) = CI at *
  generalize ((n : Nat) : Int) = NI at *
  generalize ((k : Nat) : Int) = KI at *
  simp only [p0, le0, le2, bd_some, f1, br_false, f2, f3, cp, gt, p1, f4, p2, ov, bd2_some, no, br_true, p3, cy1, cy2]
end

theorem ins_sound : CallSound Tryz.prog (insP 74 5) := by
  have body : ∀ (a0 a1 a2 : T) (σ : St), runQ Tryz.prog 8 noPrim 1 74 [a0, a1, a2] σ = f74 (runQ Tryz.prog 8 noPrim 0) 8 a0 a1 a2 σ := fun a0 a1 a2 σ =>
    (runQ_body rfl Tryz.func74 (by kernel_rfl)).trans (f74_eq _ _ _ _ _ _)
  refine Go.Abs.F.ins_sound (plain_sound Tryz.prog 8 1) ?_ ?_
  · intro σ i n k j p vs us wf h1 h2 h3 h4 h5 h6 h7
    obtain ⟨τ, e1, e2⟩ := insN_run 0 wf h1 h2 h3 h4 h5 h6 h7
    exact ⟨τ, (body _ _ _ _).trans e1, e2⟩
  · intro σ i n k j p c vs us h1 h2 h3 h4 h5 h6 h7 h8
    obtain ⟨τ, B, e1, e2⟩ := insR_run 0 h1 h2 h3 h4 h5 h6 h7 h8
    exact ⟨τ, B, (body _ _ _ _).trans e1, e2⟩
end Go.Proofs.YtlhbidbdmdcdeaaGreatDoor

/-
  What our runs ask first is what the program does. No conditions.
-/
namespace Go.Proofs.YtlhbidbdmdcdeaaGreatDoor
open Go Go.Abs Go.Abs.F
set_option linter.unusedVariables false

theorem prim1_sound : CallSound Tryz.prog prim1 := by
  refine orP_sound (orP_sound (ixP_sound ?_ ?_) (joinP_sound ?_ ?_)) (pureP_sound (runQ_sound noPrim_sound 64 8) _)
  · intro f hf s c w
    have : f = 104 ∨ f = 105 := by simpa [ixs] using hf
    rcases this with rfl | rfl
    · exact Tryz.strings_Index_one s c w
    · exact Tryz.stringslite_Index_one s c w
  · exact fun s c w => Tryz.strings_Count_one s c w
  · exact fun a c sep w => Tryz.strings_Join_none a c sep w
  · exact fun bk o c xs sep w h1 h2 h3 h4 h5 => Tryz.strings_Join bk o c xs sep w h1 h2 h3 h4 h5

theorem prim3_sound : CallSound Tryz.prog prim3 := orP_sound (orP_sound (bigP_sound _ _) (orP_sound del_sound ins_sound)) prim1_sound
theorem prim_sound : CallSound Tryz.prog prim := orP_sound (toldP_sound (runQ_sound prim3_sound 64 16) told10_all) (orP_sound (toldP_sound (runQ_sound prim3_sound 64 16) told9_all) prim3_sound)
end Go.Proofs.YtlhbidbdmdcdeaaGreatDoor
