/-
  The files' names that closed runs ask for are names; told once. No conditions.
-/
import Derived.Test.YtcihabdmigpklaaGreatDoorFnsD
namespace Go.Proofs.YtcihabdmigpklaaGreatDoor
open Go Go.Abs Go.Abs.F
set_option linter.unusedVariables false
noncomputable section
def isN (ns : List Nat) : List UInt8 → Bool :=
  List.rec (motive := fun _ => List UInt8 → Bool) (fun l => List.rec (motive := fun _ => Bool) true (fun _ _ _ => false) l) (fun n _ ih l => List.rec (motive := fun _ => Bool) false (fun a r _ => Bool.rec (motive := fun _ => Bool) false (ih r) (Nat.beq a.toNat n)) l) ns
def names : List (List Nat) := [[108, 111, 103], [118, 105, 101, 119], [118, 105, 101, 119, 46, 110, 101, 119], [104, 101, 97, 100], [104, 101, 97, 100, 46, 110, 101, 119], [118, 105, 101, 119, 115], [115, 49], [115, 50], [115, 51], [115, 52]]
def anyN (l : List UInt8) : List (List Nat) → Bool := fun ns => List.rec (motive := fun _ => Bool) false (fun n _ ih => Bool.rec (motive := fun _ => Bool) ih true (isN n l)) ns
def namedC : CallF := fun f args σ => match Nat.beq f 152 with
  | false => none
  | true => match args with
    | [.v (.s (.str l))] => Bool.rec (motive := fun _ => Option (T × St)) none (some (B true, σ)) (anyN l names)
    | _ => none

theorem isN_eq : ∀ (ns : List Nat) (l : List UInt8), isN ns l = true → l = ns.map UInt8.ofNat
  | [], l, h => by
    cases l with
    | nil => rfl
    | cons a r => cases h
  | n :: ns, l, h => by
    cases l with
    | nil => cases h
    | cons a r =>
      have h' : (Bool.rec (motive := fun _ => Bool) false (isN ns r) (Nat.beq a.toNat n) : Bool) = true := h
      cases hb : Nat.beq a.toNat n with
      | false => rw [hb] at h'; cases h'
      | true =>
        rw [hb] at h'
        rw [List.map_cons, isN_eq ns r h', ← Nat.eq_of_beq_eq_true hb]
        simp
theorem anyN_eq (l : List UInt8) : ∀ ns : List (List Nat), anyN l ns = true → ∃ n ∈ ns, l = n.map UInt8.ofNat
  | [], h => by cases h
  | n :: ns, h => by
    have h' : (Bool.rec (motive := fun _ => Bool) (anyN l ns) true (isN n l) : Bool) = true := h
    cases hb : isN n l with
    | true => exact ⟨n, by simp, isN_eq n l hb⟩
    | false =>
      rw [hb] at h'
      obtain ⟨m, hm, e⟩ := anyN_eq l ns h'
      exact ⟨m, by simp [hm], e⟩
set_option maxRecDepth 100000 in
theorem named_all : names.all (fun n => gave true (E t16 t152 12 152 [Z (.str (n.map UInt8.ofNat))] St.empty)) = true := by kernel_rfl
theorem namedC_sound : CallSound Tryz.prog namedC := by
  refine sound_mono ?_ (pureP_sound (E_sound f16_ok f152_ok 12) [152])
  intro f args σ r h
  unfold namedC at h
  split at h
  · cases h
  · rename_i hf
    have hf := Nat.eq_of_beq_eq_true hf
    subst hf
    split at h
    · rename_i l
      cases hb : anyN l names with
      | false => rw [hb] at h; cases h
      | true =>
        rw [hb] at h
        cases h
        obtain ⟨n, hn, rfl⟩ := anyN_eq l names hb
        obtain ⟨τ, e⟩ := gave_some (List.all_eq_true.1 named_all n hn)
        have hp : ([Z (.str (n.map UInt8.ofNat))] : List T).all plainT = true := rfl
        unfold pureP
        rw [show ([152] : List Nat).contains 152 = true from rfl, hp, Bool.and_self]
        simp only [e]
        rfl
    · cases h
theorem named_ok : Ok Tryz.prog 152 (fun _ => namedC 152) := ok_prim namedC_sound _
/-- Calls in the fast texts, names told. -/
abbrev E1 : Nat → CallF := E t16 (fun _ => namedC 152)
theorem E1_sound (d : Nat) : CallSound Tryz.prog (E1 d) := E_sound f16_ok named_ok d
end
end Go.Proofs.YtcihabdmigpklaaGreatDoor
