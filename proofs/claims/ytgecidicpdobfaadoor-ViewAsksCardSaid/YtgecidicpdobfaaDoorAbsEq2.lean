/-
  Equality of structs and arrays, leaf by leaf.
-/
import Derived.Test.YtgecidicpdobfaaDoorAbsEq
namespace Go.Abs
open Go
section
variable {P : Program} {ι : Inj}

def eqElems (d : Nat) (e : TypeId) (n : Nat) (xs ys : Array Value) : Nat → Nat → Sem Bool
  | 0, _ => pure true
  | c + 1, i => do
    let a ← part e xs (i * n)
    let b ← part e ys (i * n)
    let r ← Op.equalIn d e a b
    if (!r) = true then pure false else eqElems d e n xs ys c (i + 1)

theorem run_equalIn_array (d : Nat) {t e : TypeId} {len n : Nat} (xs ys : Array Value) (w : World) (ht : P.underlying t = some (.array len e)) (hn : szOf P e = some n) :
    (Op.equalIn (d + 1) t (.agg xs) (.agg ys)).run P w = (eqElems d e n xs ys len 0).run P w := by
  simp only [Op.equalIn, Go.Abs.run_bind, run_und ht, run_sz hn]
  rw [Std.Legacy.Range.forIn_eq_forIn_range']
  have hs : [:len].size = len := by simp [Std.Legacy.Range.size]
  rw [hs, show [:len].start = 0 from rfl, show [:len].step = 1 from rfl]
  generalize hst : (0 : Nat) = st
  clear hst hs ht
  induction len generalizing st w with
  | zero => simp [eqElems, run_pure]
  | succ len ih =>
    rw [List.range'_succ]
    simp only [List.forIn_cons, eqElems, Go.Abs.run_bind]
    generalize (part e xs (st * n)).run P w = r1
    cases r1 with
    | halt x w1 => rfl
    | ok a w1 =>
      simp only []
      generalize (part e ys (st * n)).run P w1 = r2
      cases r2 with
      | halt x w2 => rfl
      | ok b w2 =>
        simp only []
        generalize (Op.equalIn d e a b).run P w2 = r3
        cases r3 with
        | halt x w3 => rfl
        | ok r w3 =>
          cases r
          · simp [run_pure]
          · simp only [Bool.not_true, Bool.false_eq_true, if_false, run_pure]
            exact ih w3 (st + 1)

theorem cmp_run {xs ys : List S} {cs ds : List Value} (hx : All2 (SRel ι) xs cs) (hy : All2 (SRel ι) ys ds) (k : Nat) (w : World) :
    ∀ (d : Nat) (t : TypeId) (off : Nat) (ls : List (Nat × LK)) (r : Bool), leaves P d t off = some ls → aEqL xs ys ls = some r →
      ∃ a b, (part t cs.toArray off).run P w = .ok a w ∧ (part t ds.toArray off).run P w = .ok b w ∧ (Op.equalIn (d + k) t a b).run P w = .ok r w := by
  intro d
  induction d with
  | zero => intro t off ls r h; cases h
  | succ d ih =>
    intro t off ls r h hr
    have leaf : ∀ (lk : LK), ls = [(off, lk)] → aggOf P t = some false →
        lk.fits P t →
        ∃ a b, (part t cs.toArray off).run P w = .ok a w ∧ (part t ds.toArray off).run P w = .ok b w ∧ (Op.equalIn (d + 1 + k) t a b).run P w = .ok r w := by
      intro lk e ha ht
      subst e
      obtain ⟨x, y, h1, h2, h3⟩ := aEqL_one hr
      obtain ⟨u, hu, ru⟩ := forall2_get hx off x h1
      obtain ⟨v, hv, rv⟩ := forall2_get hy off y h2
      refine ⟨u, v, by simp [part, run_bind, run_agg ha, hu, run_pure], by simp [part, run_bind, run_agg ha, hv, run_pure], ?_⟩
      have e : d + 1 + k = (d + k) + 1 := by omega
      rw [e]
      exact leafEq_run ru rv h3 ht _ w
    simp only [leaves] at h
    split at h
    · rename_i hu; cases h; exact leaf .b rfl (by simp [aggOf, hu]) hu
    · rename_i k' hu; cases h; exact leaf .i rfl (by simp [aggOf, hu]) ⟨k', hu⟩
    · rename_i hu; cases h; exact leaf .s rfl (by simp [aggOf, hu]) hu
    · rename_i fs hu
      split at h
      · cases h
      · rename_i hst
        have hst' : P.stoodInHeld t = false := by simpa using hst
        split at h
        · rename_i n hn
          have ha : aggOf P t = some true := by simp [aggOf, hu]
          refine ⟨_, _, part_agg ha hn cs off w, part_agg ha hn ds off w, ?_⟩
          have hfo : P.fieldsOf t = fs := by simp [Program.fieldsOf, hu]
          have e : d + 1 + k = (d + k) + 1 := by omega
          rw [e, run_equalIn_struct w (d + k) t _ _ (by rw [hfo]; exact hu) hst', hfo]
          generalize fs.toList = fl at h
          clear hfo e hu leaf
          induction fl generalizing ls r with
          | nil => cases h; cases hr; rfl
          | cons f fl ihf =>
            simp only [leavesF] at h
            simp only [Op.eqFields]
            by_cases hname : f.name = "_"
            · rw [if_pos hname] at h
              rw [if_neg (by simpa using hname)]
              exact ihf ls r hr h
            · rw [if_neg hname] at h
              rw [if_pos hname]
              split at h
              · rename_i m a b hm hla hlb
                split at h
                · rename_i hle
                  cases h
                  obtain ⟨p, q, hp, hq, rfl⟩ := aEqL_append hr
                  obtain ⟨u, v, h1, h2, h3⟩ := ih f.type (off + f.offset) a p hla hp
                  simp only [run_bind]
                  rw [part_sub hm hle.1 (leaves_agg hla) (fun _ => hle.2) w, h1]
                  simp only []
                  rw [part_sub hm hle.1 (leaves_agg hla) (fun _ => hle.2) w, h2]
                  simp only [h3]
                  cases p
                  · simp [run_pure]
                  · simp only [Bool.not_true, Bool.false_eq_true, if_false, Bool.true_and]
                    exact ihf b q hq hlb
                · cases h
              · cases h
        · cases h
    · rename_i m e hu
      split at h
      · rename_i n N hn hN
        split at h
        · rename_i hle
          have ha : aggOf P t = some true := by simp [aggOf, hu]
          refine ⟨_, _, part_agg ha hN cs off w, part_agg ha hN ds off w, ?_⟩
          have ee : d + 1 + k = (d + k) + 1 := by omega
          rw [ee, run_equalIn_array (d + k) _ _ w hu hn]
          obtain ⟨hle, hn0⟩ := hle
          have key : ∀ (c i o : Nat) (ls : List (Nat × LK)) (r : Bool), o = off + i * n → (i + c) * n ≤ N → leavesA (leaves P d e) n c o = some ls → aEqL xs ys ls = some r →
              (eqElems (d + k) e n ((cs.drop off).take N).toArray ((ds.drop off).take N).toArray c i).run P w = .ok r w := by
            intro c
            induction c with
            | zero => intro i o ls r _ _ hl hr; cases hl; cases hr; rfl
            | succ c ihc =>
              intro i o ls r ho hN' hl hr
              simp only [leavesA] at hl
              split at hl
              · rename_i a b hla hlb
                cases hl
                obtain ⟨p, q, hp, hq, rfl⟩ := aEqL_append hr
                subst ho
                obtain ⟨u, v, h1, h2, h3⟩ := ih e (off + i * n) a p hla hp
                have hb : i * n + n ≤ N := by
                  have : (i + 1) * n ≤ (i + (c + 1)) * n := Nat.mul_le_mul_right n (by omega)
                  have e1 : (i + 1) * n = i * n + n := by rw [Nat.add_mul]; omega
                  omega
                simp only [eqElems, run_bind]
                rw [part_sub hn hb (leaves_agg hla) (fun _ => hn0) w, h1]
                simp only []
                rw [part_sub hn hb (leaves_agg hla) (fun _ => hn0) w, h2]
                simp only [h3]
                cases p
                · simp [run_pure]
                · simp only [Bool.not_true, Bool.false_eq_true, if_false, Bool.true_and]
                  refine ihc (i + 1) (off + i * n + n) b q ?_ ?_ hlb hq
                  · rw [Nat.add_mul]; omega
                  · have : i + 1 + c = i + (c + 1) := by omega
                    rw [this]; exact hN'
              · cases hl
          exact key m 0 off ls r (by simp) (by simpa using hle) h hr
        · cases h
      · cases h
    · cases h
end

/-- '==' at a type: the depth at which the tables are read. -/
def eqDepth : Nat := 12

inductive EK where
  | b | p | l | m | f | i
  | a (n : Nat) (l : List (Nat × LK))

/-- How values of a type are compared. -/
def ekOf (P : Program) (t : TypeId) : Option EK :=
  match P.underlying t with
  | some .bool => some .b
  | some (.pointer _) => some .p
  | some (.slice _) => some .l
  | some (.map _ _) => some .m
  | some (.func _ _ _) => some .f
  | some (.interface _) => some .i
  | some (.struct _) => if P.eqGuardType P.depth t then none else match leaves P eqDepth t 0, szOf P t with
    | some l, some n => some (.a n l)
    | _, _ => none
  | some (.array _ _) => if P.eqGuardType P.depth t then none else match leaves P eqDepth t 0, szOf P t with
    | some l, some n => some (.a n l)
    | _, _ => none
  | _ => none

def aEq : EK → T → T → Option Bool
  | .b, .v (.s (.bool a)), .v (.s (.bool b)) => some (decide (a = b))
  | .p, .v (.s x), .v (.s y) => match x, y with
    | .nilp, .nilp => some true
    | .nilp, .ptr _ _ => some false
    | .ptr _ _, .nilp => some false
    | _, _ => none
  | .l, .v (.s x), .v (.s y) => match x, y with
    | .nils, .nils => some true
    | .nils, .sl _ _ _ _ => some false
    | .sl _ _ _ _, .nils => some false
    | .nils, .emp _ _ => some false
    | .emp _ _, .nils => some false
    | _, _ => none
  | .m, .v (.s x), .v (.s y) => match x, y with
    | .nilm, .nilm => some true
    | .nilm, .map _ => some false
    | .map _, .nilm => some false
    | _, _ => none
  | .f, .v (.s x), .v (.s y) => match x, y with
    | .nilf, .nilf => some true
    | .nilf, .clo _ _ => some false
    | .clo _ _, .nilf => some false
    | _, _ => none
  | .i, .v (.s .nili), .v (.s .nili) => some true
  | .a n l, .v (.agg xs), .v (.agg ys) => if xs.length = n ∧ ys.length = n then aEqL xs ys l else none
  | _, _, _ => none

def isConst : Operand → Bool
  | .const _ => true
  | _ => false

section
variable {P : Program} {ι : Inj} {w : World}

theorem eqIn_ptr {d : Nat} {t e : TypeId} (hu : P.underlying t = some (.pointer e)) (a b : Option Addr) (h : a = none ∨ b = none) :
    (Op.equalIn (d + 1) t (.pointer a) (.pointer b)).run P w = .ok (a.isNone && b.isNone) w := by
  rcases h with rfl | rfl
  · simp [Op.equalIn, run_bind, run_und hu, run_pure]
  · cases a <;> simp [Op.equalIn, run_bind, run_und hu, run_pure]
theorem eqIn_slice {d : Nat} {t e : TypeId} (hu : P.underlying t = some (.slice e)) (a b : Option Addr) (n c m k : Nat) (h : a = none ∨ b = none) :
    (Op.equalIn (d + 1) t (.slice a n c) (.slice b m k)).run P w = .ok (a.isNone && b.isNone) w := by
  rcases h with rfl | rfl
  · simp [Op.equalIn, run_bind, run_und hu, run_pure]
  · cases a <;> simp [Op.equalIn, run_bind, run_und hu, run_pure]
theorem eqIn_map {d : Nat} {t e e' : TypeId} (hu : P.underlying t = some (.map e e')) (a b : Option Nat) (h : a = none ∨ b = none) :
    (Op.equalIn (d + 1) t (.map a) (.map b)).run P w = .ok (a.isNone && b.isNone) w := by
  rcases h with rfl | rfl
  · simp [Op.equalIn, run_bind, run_und hu, run_pure]
  · cases a <;> simp [Op.equalIn, run_bind, run_und hu, run_pure]
theorem eqIn_func {d : Nat} {t : TypeId} {e e' : Array TypeId} {e'' : Bool} (hu : P.underlying t = some (.func e e' e'')) (f : Fn) (a b : Array Value) :
    (Op.equalIn (d + 1) t .nilFunc .nilFunc).run P w = .ok true w ∧ (Op.equalIn (d + 1) t .nilFunc (.func f a b)).run P w = .ok false w ∧ (Op.equalIn (d + 1) t (.func f a b) .nilFunc).run P w = .ok false w :=
  ⟨by simp [Op.equalIn, run_bind, run_und hu, run_pure], by simp [Op.equalIn, run_bind, run_und hu, run_pure], by simp [Op.equalIn, run_bind, run_und hu, run_pure]⟩
theorem eqIn_iface {d : Nat} {t : TypeId} {e : Array (String × TypeId)} (hu : P.underlying t = some (.interface e)) :
    (Op.equalIn (d + 1) t .nilIface .nilIface).run P w = .ok true w := by simp [Op.equalIn, run_bind, run_und hu, run_pure]

theorem equal_of {t : TypeId} {u v : Value} {r : Bool} (h : (Op.equalIn (9999 + 1) t u v).run P w = .ok r w) (neg : Bool) (p q : Operand)
    (hg : (eqGuard (if neg then .neq else .eql) t p q u v).run P w = .ok () w)
    (hb : Go.binOp (if neg then .neq else .eql) t u v = (do pure (.bool (neg ^^ (← Op.equal t u v))))) :
    (do eqGuard (if neg then .neq else .eql) t p q u v; Go.binOp (if neg then .neq else .eql) t u v : Sem Value).run P w = .ok (.bool (neg ^^ r)) w := by
  have h' : (Op.equal t u v).run P w = .ok r w := h
  simp only [run_bind, hg, hb, h', run_pure]

theorem aEq_run {t : TypeId} {x y : T} {u v : Value} {r : Bool} {k : EK} (hk : ekOf P t = some k) (hx : TRel ι x u) (hy : TRel ι y v) (h : aEq k x y = some r) (neg : Bool) (p q : Operand)
    (hc : k = .i → isConst p || isConst q) :
    (do eqGuard (if neg then .neq else .eql) t p q u v; Go.binOp (if neg then .neq else .eql) t u v : Sem Value).run P w = .ok (.bool (neg ^^ r)) w := by
  have hsl : ∀ {x : S} {u : Value}, SRel ι x u → (∃ i o n c, x = .sl i o n c) ∨ (∃ i e, x = .emp i e) → ∃ a n c, u = .slice (some a) n c := by
    rintro x u hr (⟨i, o, n, c, rfl⟩ | ⟨i, e, rfl⟩)
    · cases c with
      | known c => obtain ⟨L, _, e, _⟩ := hr; exact ⟨_, _, _, e⟩
      | grown c => obtain ⟨L, c, _, e, _⟩ := hr; exact ⟨_, _, _, e⟩
    · obtain ⟨L, o, c, _, e, _⟩ := hr; exact ⟨_, _, _, e⟩
  unfold ekOf at hk
  split at hk
  · rename_i hu
    cases hk
    unfold aEq at h
    split at h <;> first | (rename_i hh; cases hh; done) | skip
    · simp only [TRel, VRel, SRel] at hx hy; subst hx hy; cases h
      refine equal_of (by rw [run_equalIn_bool' w _ t _ _ hu]; rename_i a b _; cases a <;> cases b <;> rfl) neg p q (by rw [eqGuard_at_bool]; rfl) (by cases neg <;> simp [Go.binOp])
    · cases h
  · rename_i e hu
    cases hk
    have hp := fun (a b : Option Addr) h => eqIn_ptr (w := w) (d := 9999) hu a b h
    have fin : ∀ a b : Option Addr, a = none ∨ b = none → u = .pointer a → v = .pointer b → r = (a.isNone && b.isNone) →
        (do eqGuard (if neg then .neq else .eql) t p q u v; Go.binOp (if neg then .neq else .eql) t u v : Sem Value).run P w = .ok (.bool (neg ^^ r)) w := by
      intro a b hab hu hv hr
      subst hu hv hr
      exact equal_of (hp a b hab) neg p q (by rw [eqGuard_at_pointer]; rfl) (by cases neg <;> simp [Go.binOp])
    unfold aEq at h
    split at h <;> first | (rename_i hh; cases hh; done) | skip
    · split at h
      · cases h; exact fin none none (.inl rfl) hx hy rfl
      · obtain ⟨L, _, e⟩ := hy; cases h; exact fin none _ (.inl rfl) hx e rfl
      · obtain ⟨L, _, e⟩ := hx; cases h; exact fin _ none (.inr rfl) e hy rfl
      · cases h
    · cases h
  · rename_i e hu
    cases hk
    have hp := fun (a b : Option Addr) n c m k h => eqIn_slice (w := w) (d := 9999) hu a b n c m k h
    have fin : ∀ (a b : Option Addr) (n c m d : Nat), a = none ∨ b = none → u = .slice a n c → v = .slice b m d → r = (a.isNone && b.isNone) →
        (do eqGuard (if neg then .neq else .eql) t p q u v; Go.binOp (if neg then .neq else .eql) t u v : Sem Value).run P w = .ok (.bool (neg ^^ r)) w := by
      intro a b n c m d hab hu hv hr
      subst hu hv hr
      exact equal_of (hp a b n c m d hab) neg p q (by rw [eqGuard_at_slice]; rfl) (by cases neg <;> simp [Go.binOp])
    unfold aEq at h
    split at h <;> first | (rename_i hh; cases hh; done) | skip
    · split at h
      · cases h; exact fin none none _ _ _ _ (.inl rfl) hx hy rfl
      · obtain ⟨a, n, c, e⟩ := hsl hy (.inl ⟨_, _, _, _, rfl⟩); cases h; exact fin none _ _ _ _ _ (.inl rfl) hx e rfl
      · obtain ⟨a, n, c, e⟩ := hsl hx (.inl ⟨_, _, _, _, rfl⟩); cases h; exact fin _ none _ _ _ _ (.inr rfl) e hy rfl
      · obtain ⟨a, n, c, e⟩ := hsl (x := .emp _ _) hy (.inr ⟨_, _, rfl⟩); cases h; exact fin none _ _ _ _ _ (.inl rfl) hx e rfl
      · obtain ⟨a, n, c, e⟩ := hsl (x := .emp _ _) hx (.inr ⟨_, _, rfl⟩); cases h; exact fin _ none _ _ _ _ (.inr rfl) e hy rfl
      · cases h
    · cases h
  · rename_i e e' hu
    cases hk
    have hp := fun (a b : Option Nat) h => eqIn_map (w := w) (d := 9999) hu a b h
    have fin : ∀ a b : Option Nat, a = none ∨ b = none → u = .map a → v = .map b → r = (a.isNone && b.isNone) →
        (do eqGuard (if neg then .neq else .eql) t p q u v; Go.binOp (if neg then .neq else .eql) t u v : Sem Value).run P w = .ok (.bool (neg ^^ r)) w := by
      intro a b hab hu hv hr
      subst hu hv hr
      exact equal_of (hp a b hab) neg p q (by rw [eqGuard_at_map]; rfl) (by cases neg <;> simp [Go.binOp])
    unfold aEq at h
    split at h <;> first | (rename_i hh; cases hh; done) | skip
    · split at h
      · cases h; exact fin none none (.inl rfl) hx hy rfl
      · obtain ⟨L, _, e⟩ := hy; cases h; exact fin none _ (.inl rfl) hx e rfl
      · obtain ⟨L, _, e⟩ := hx; cases h; exact fin _ none (.inr rfl) e hy rfl
      · cases h
    · cases h
  · rename_i e e' e'' hu
    cases hk
    unfold aEq at h
    split at h <;> first | (rename_i hh; cases hh; done) | skip
    · split at h
      · simp only [TRel, VRel, SRel] at hx hy; subst hx hy; cases h
        exact equal_of (eqIn_func hu (.func 0) #[] #[]).1 neg p q (by rw [eqGuard_at_nilFunc]; rfl) (by cases neg <;> simp [Go.binOp])
      · obtain ⟨L, e, _⟩ := hy; simp only [TRel, VRel, SRel] at hx; subst hx e; cases h
        exact equal_of (eqIn_func hu _ _ _).2.1 neg p q (by rw [eqGuard_at_nilFunc]; rfl) (by cases neg <;> simp [Go.binOp])
      · obtain ⟨L, e, _⟩ := hx; simp only [TRel, VRel, SRel] at hy; subst hy e; cases h
        exact equal_of (eqIn_func hu _ _ _).2.2 neg p q (by rw [eqGuard_at_func]; rfl) (by cases neg <;> simp [Go.binOp])
      · cases h
    · cases h
  · rename_i e hu
    cases hk
    unfold aEq at h
    split at h <;> first | (rename_i hh; cases hh; done) | skip
    · simp only [TRel, VRel, SRel] at hx hy; subst hx hy; cases h
      refine equal_of (eqIn_iface hu) neg p q ?_ (by cases neg <;> simp [Go.binOp])
      have := hc rfl
      cases p <;> first | (rw [eqGuard_nil_constL]; rfl) | (cases q <;> first | (rw [eqGuard_nil_constR]; rfl) | (simp [isConst] at this))
    · cases h
  all_goals first | (cases hk; done) | skip
  all_goals
    rename_i hu
    split at hk
    · cases hk
    · rename_i hg
      have hg' : P.eqGuardType P.depth t = false := by simpa using hg
      split at hk <;> first | (cases hk; done) | skip
      rename_i l n hl hn
      cases hk
      unfold aEq at h
      split at h <;> first | (rename_i hh; cases hh; done) | skip
      · rename_i xs ys he
        cases he
        split at h
        · rename_i hlen
          obtain ⟨cs, rfl, hcs⟩ := hx
          obtain ⟨ds, rfl, hds⟩ := hy
          obtain ⟨a, b, ha, hb, hr⟩ := cmp_run hcs hds 9988 w eqDepth t 0 _ _ hl h
          have hag : aggOf P t = some true := by simp [aggOf, hu]
          have l1 := forall2_length hcs
          have l2 := forall2_length hds
          rw [part_agg hag hn] at ha hb
          cases ha; cases hb
          rw [List.drop_zero, List.take_of_length_le (by omega), List.drop_zero, List.take_of_length_le (by omega)] at hr
          exact equal_of hr neg p q (run_eqGuard_agg w _ t p q _ _ hg') (by cases neg <;> simp [Go.binOp])
        · cases h
      · cases h
end
end Go.Abs
