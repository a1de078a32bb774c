/-
  What arguments give: a struct of plain fields, a slice of bytes. No conditions but those named in each line.
-/
import Derived.Test.YtgecidicpdobfaaDoorByte
import Derived.Test.YtgecidicpdobfaaDoorChecked
namespace Go.Abs.F
open Go Go.Abs
theorem open_agg {H : Type} {enc : TypeId × Value → H} {P : Program} {w : World} {base : Nat} {spare : Nat → Bool} {held : Bool} {r : Reach} {b0 : Nat} {t : TypeId} {fs : Array Field} {ks : List AK} {n : Nat} {v : Value} {d : DataW H} {ps : List MemPlace} (ht : P.underlying t = some (.struct fs)) (hk : flatK P n t = some ks)
    (hval : Value.okWide P w r b0 t v) (hd : DataW.Trod enc P w base spare held t v d ps) : ∃ (xs : List S) (cs : List Value), v = .agg cs.toArray ∧ All2 KS ks xs ∧ ∀ ι, All2 (SRel ι) xs cs := by
  unfold Value.okWide at hval
  rw [ht] at hval
  obtain ⟨cs, rfl, _⟩ := hval
  obtain ⟨m, hm⟩ := hd
  obtain ⟨xs, h1, h2⟩ := flat_trod n m t _ _ ks hm hk
  exact ⟨xs, cs.toList, rfl, h1, h2⟩
end Go.Abs.F
namespace Go.Proofs.YtgecidicpdobfaaDoor
open Go Go.Abs Go.Abs.F
set_option linter.unusedVariables false

theorem row_byte {x : List S} (h : All2 KS [.int .u8] x) : ∃ b : UInt8, x = U [b] := by
  cases h with
  | cons a b =>
    cases b
    obtain ⟨n, rfl, hn⟩ := KS.int a
    have hn' : 0 ≤ n ∧ n < 256 := by
      simp [Lit.wf, IntKind.min, IntKind.max, IntKind.signed, IntKind.bits] at hn
      omega
    refine ⟨UInt8.ofNat n.toNat, ?_⟩
    have : ((UInt8.ofNat n.toNat).toNat : Int) = n := by
      have : (UInt8.ofNat n.toNat).toNat = n.toNat % 256 := by simp
      rw [this]
      omega
    show [S.int .u8 n] = [S.int .u8 ((UInt8.ofNat n.toNat).toNat : Int)]
    rw [this]

theorem rows_bytes : ∀ {rows : List (List S)}, (∀ x ∈ rows, All2 KS [.int .u8] x) → ∃ bs : List UInt8, rows.flatten = U bs ∧ bs.length = rows.length
  | [], _ => ⟨[], rfl, rfl⟩
  | x :: r, h => by
    obtain ⟨b, rfl⟩ := row_byte (h x List.mem_cons_self)
    obtain ⟨bs, e, hl⟩ := rows_bytes (rows := r) fun y hy => h y (List.mem_cons_of_mem _ hy)
    exact ⟨b :: bs, by rw [List.flatten_cons, e]; rfl, by simp [hl]⟩

theorem arg_U {s : St} {a : T} {c : Nat} {rows : List (List S)} (h : SlOf a c rows) (hr : ∀ x ∈ rows, All2 KS [.int .u8] x) (hc : c < s.size) (hg : s.get c = some (argBlk rows.flatten)) :
    ∃ x bs, a = Z x ∧ Rd s x (U bs) ∧ okCap x ∧ ∀ c, own x = some c → c < s.size := by
  obtain ⟨bs, e, hl⟩ := rows_bytes hr
  rw [e] at hg
  rcases h with ⟨rfl, rfl⟩ | ⟨cap, hcap, rfl⟩
  · have : bs = [] := List.eq_nil_of_length_eq_zero hl
    subst this
    exact ⟨.nils, [], rfl, .inl ⟨rfl, .inl rfl⟩, trivial, fun c hc => by cases hc⟩
  · refine ⟨.sl c 0 rows.length (.known cap), bs, rfl, ?_, hcap, fun c' hc' => by cases hc'; exact hc⟩
    rw [← hl]
    cases bs with
    | nil => exact .inl ⟨rfl, .inr (.inr ⟨_, _, _, rfl⟩)⟩
    | cons b r => exact .inr ⟨c, 0, .known cap, false, U (b :: r), by rw [U_len], hg, by simp, by rw [List.drop_zero]; exact List.take_of_length_le (Nat.le_refl _)⟩
end Go.Proofs.YtgecidicpdobfaaDoor
