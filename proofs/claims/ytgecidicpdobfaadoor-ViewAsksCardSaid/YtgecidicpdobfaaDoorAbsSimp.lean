/-
  Rewriting rules for printed texts.
-/
import Derived.Test.YtgecidicpdobfaaDoorAbsPureCall
namespace Go.Abs.F
open Go Go.Abs

/-- A proof that simp must write down (a proof by rfl alone is left to the kernel, which goes astray in long texts). -/
theorem nz {α : Sort _} {a b : α} (h : a = b) : a = b := h

section
variable {α R : Type}
@[simp] theorem bd_some (a : α) (K : α → Option R) : bd (some a) K = K a := nz rfl
@[simp] theorem bd_none (K : α → Option R) : bd none K = none := nz rfl
@[simp] theorem bd2_some (t : T) (τ : St) (K : T → St → Option R) : bd2 (some (t, τ)) K = K t τ := nz rfl
@[simp] theorem bd2_none (K : T → St → Option R) : bd2 none K = none := nz rfl
@[simp] theorem br_true (x y : Option R) : br (B true) x y = x := nz rfl
@[simp] theorem br_false (x y : Option R) : br (B false) x y = y := nz rfl
theorem br_bool (b : Bool) (x y : Option R) : br (B b) x y = if b = true then x else y := by cases b <;> rfl
@[simp] theorem jn_normal (v : List T) (τ : St) (f : List T → St → Option R) (g : Nat → List T → St → Option R) (h : T → St → Option R) : jn (some (.normal v, τ)) f g h = f v τ := nz rfl
@[simp] theorem jn_exit (i : Nat) (v : List T) (τ : St) (f : List T → St → Option R) (g : Nat → List T → St → Option R) (h : T → St → Option R) : jn (some (.exit i v, τ)) f g h = g i v τ := nz rfl
@[simp] theorem jn_ret (r : T) (τ : St) (f : List T → St → Option R) (g : Nat → List T → St → Option R) (h : T → St → Option R) : jn (some (.ret r, τ)) f g h = h r τ := nz rfl
@[simp] theorem jn_none (f : List T → St → Option R) (g : Nat → List T → St → Option R) (h : T → St → Option R) : jn none f g h = none := nz rfl
@[simp] theorem gd_bool (b w : Bool) : gd (B b) w = some (b == w) := nz rfl
@[simp] theorem gT_true (x : Option T) : gT (some true) x = x := nz rfl
@[simp] theorem gT_false (x : Option T) : gT (some false) x = some tt := nz rfl
@[simp] theorem gS_true (σ : St) (x : Option (T × St)) : gS (some true) σ x = x := nz rfl
@[simp] theorem gS_false (σ : St) (x : Option (T × St)) : gS (some false) σ x = some (tt, σ) := nz rfl
@[simp] theorem ck_true (x : Option R) : ck true x = x := nz rfl
@[congr] theorem bd_cong {x y : Option α} {K : α → Option R} (h : x = y) : bd x K = bd y K := by rw [h]
@[congr] theorem bd2_cong {x y : Option (T × St)} {K : T → St → Option R} (h : x = y) : bd2 x K = bd2 y K := by rw [h]
@[congr] theorem br_cong {x y : T} {u v : Option R} (h : x = y) : br x u v = br y u v := by rw [h]
@[congr] theorem gT_cong {x y : Option Bool} {z : Option T} (h : x = y) : gT x z = gT y z := by rw [h]
@[congr] theorem gS_cong {x y : Option Bool} {σ : St} {z : Option (T × St)} (h : x = y) : gS x σ z = gS y σ z := by rw [h]
@[congr] theorem ck_cong {x y : Bool} {z : Option R} (h : x = y) : ck x z = ck y z := by rw [h]
@[simp] theorem aPick_bool_true (a b : T) : aPick (B true) a b = some a := nz rfl
@[simp] theorem aPick_bool_false (a b : T) : aPick (B false) a b = some b := nz rfl
@[simp] theorem aNil_ptr (i o : Nat) : aNil (Z (.ptr i o)) = some (Z (.ptr i o)) := nz rfl
@[simp] theorem eqB_nil : eqB .p (Z .nilp) (Z .nilp) = some (B true) := nz rfl
@[simp] theorem eqB_ptr (i o : Nat) : eqB .p (Z (.ptr i o)) (Z .nilp) = some (B false) := nz rfl
@[simp] theorem neB_nil : neB .p (Z .nilp) (Z .nilp) = some (B false) := nz rfl
@[simp] theorem neB_ptr (i o : Nat) : neB .p (Z (.ptr i o)) (Z .nilp) = some (B true) := nz rfl
@[simp] theorem eqB_bool (a b : Bool) : eqB .b (B a) (B b) = some (B (decide (a = b))) := nz rfl
@[simp] theorem neB_bool (a b : Bool) : neB .b (B a) (B b) = some (B (!decide (a = b))) := nz rfl
@[simp] theorem aFieldAddr_ptr (k i o : Nat) : aFieldAddr k (Z (.ptr i o)) = some (Z (.ptr i (o + k))) := nz rfl
@[simp] theorem aUn_not (b : Bool) : aUn .not (B b) = some (B (!b)) := nz rfl
@[simp] theorem aConv_int (k q : IntKind) (n : Int) : aConv k (I q n) = some (I k (k.wrap n)) := nz rfl
@[simp] theorem lss_int (k : IntKind) (a b : Int) : aBin .lss (I k a) (I k b) = some (B (decide (a < b))) := by simp [aBin, aInt]
@[simp] theorem leq_int (k : IntKind) (a b : Int) : aBin .leq (I k a) (I k b) = some (B (decide (a ≤ b))) := by simp [aBin, aInt]
@[simp] theorem gtr_int (k : IntKind) (a b : Int) : aBin .gtr (I k a) (I k b) = some (B (decide (b < a))) := by simp [aBin, aInt]
@[simp] theorem geq_int (k : IntKind) (a b : Int) : aBin .geq (I k a) (I k b) = some (B (decide (b ≤ a))) := by simp [aBin, aInt]
@[simp] theorem eql_int (k : IntKind) (a b : Int) : aBin .eql (I k a) (I k b) = some (B (decide (a = b))) := by simp [aBin, aInt]
@[simp] theorem neq_int (k : IntKind) (a b : Int) : aBin .neq (I k a) (I k b) = some (B (!decide (a = b))) := by simp [aBin, aInt]
@[simp] theorem add_int (k : IntKind) (a b : Int) : aBin .add (I k a) (I k b) = some (I k (k.wrap (a + b))) := by simp [aBin, aInt]
@[simp] theorem sub_int (k : IntKind) (a b : Int) : aBin .sub (I k a) (I k b) = some (I k (k.wrap (a - b))) := by simp [aBin, aInt]
@[simp] theorem mul_int (k : IntKind) (a b : Int) : aBin .mul (I k a) (I k b) = some (I k (k.wrap (a * b))) := by simp [aBin, aInt]
theorem rem_int (k : IntKind) (a b : Int) (h : b ≠ 0) : aBin .rem (I k a) (I k b) = some (I k (a.tmod b)) := by simp [aBin, aInt, h]
theorem quo_int (k : IntKind) (a b : Int) (h : b ≠ 0) : aBin .quo (I k a) (I k b) = some (I k (k.wrap (a.tdiv b))) := by simp [aBin, aInt, h]
@[simp] theorem aFold_min (k q : IntKind) (a b : Int) : aFold aMin2 (I k a) [I q b] = some (I k (min a b)) := by
  have h : (if b < a then b else a) = min a b := by split <;> omega
  show some (I k (if b < a then b else a)) = _
  rw [h]
@[simp] theorem aFold_max (k q : IntKind) (a b : Int) : aFold aMax2 (I k a) [I q b] = some (I k (max a b)) := by
  have h : (if a < b then b else a) = max a b := by split <;> omega
  show some (I k (if a < b then b else a)) = _
  rw [h]
theorem aLoad1_of {g : Mem} {i o : Nat} {own : Bool} {vs : List S} {x : S} (h : g i = some (.cells own vs)) (hx : vs[o]? = some x) : aLoad1 (Z (.ptr i o)) g = some (Z x) := by
  simp [aLoad1, h, hx]
theorem aStore1_of {σ : St} {i o : Nat} {vs : List S} {x : S} (h : σ.get i = some (.cells true vs)) (hx : o < vs.length) : aStore 1 (Z (.ptr i o)) (Z x) σ = some (tt, σ.set i (.cells true (setRange vs o [x]))) := by
  simp [aStore, h, V.cells]
  omega
end

theorem runQ_prim {P : Program} {N : Nat} {prim : CallF} {d : Nat} {f : FuncId} {args : List T} {σ : St} {r : T × St} (h : prim f args σ = some r) : runQ P N prim (d + 1) f args σ = some r := by
  simp only [runQ, h]

theorem pureP_of {callf : CallF} {fs : List Nat} {f : FuncId} {ts : List T} {σ τ0 : St} {r : T} (hb : (fs.contains f && ts.all plainT) = true) (h : callf f ts St.empty = some (r, τ0)) (hr : plainT r = true) :
    pureP callf fs f ts σ = some (r, σ) := by
  simp only [pureP, hb, h, hr]

theorem pureP_gave {callf : CallF} {fs : List Nat} {f : FuncId} {σ : St} {b : Bool} (hb : fs.contains f = true) (h : gave b (callf f [] St.empty) = true) : pureP callf fs f [] σ = some (B b, σ) := by
  obtain ⟨τ, h⟩ := gave_some h
  exact pureP_of (by rw [hb]; rfl) h rfl

theorem pureP_not {callf : CallF} {fs : List Nat} {f : FuncId} {ts : List T} {σ : St} (hb : fs.contains f = false) : pureP callf fs f ts σ = none := by
  simp only [pureP, hb, Bool.false_and]
end Go.Abs.F
namespace Go.Abs
@[simp] theorem St.size_empty : St.empty.size = 0 := rfl
theorem St.get_empty (k : Nat) : St.empty.get k = none := rfl
end Go.Abs
