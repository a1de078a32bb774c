/-
  Frames: what log.Wrap, Open, Frame, All, Read, Meet and Front compute, in any store. No conditions but those named in each line.
-/
import Derived.Test.YtlhbidbdmdcdeaaGreatDoorGet
namespace Go.Proofs.YtlhbidbdmdcdeaaGreatDoor
open Go Go.Abs Go.Abs.F
set_option linter.unusedVariables false

theorem sumB_append (n : Nat) : ∀ a b : Bs, sumB n (a ++ b) = sumB (sumB n a) b
  | [], b => rfl
  | c :: a, b => sumB_append _ a b

def wrapB (bs : Bs) : Bs := vput bs.length ++ four (sumB 1 (vput bs.length ++ bs)) ++ bs
def openB (bs : Bs) (at_ : Nat) : Option (Bs × Nat) := match vget bs at_ with
  | none => none
  | some (n, to) => if bs.length < to + 4 ∨ bs.length - to - 4 < n then none else
    if (bs.drop at_).take (to + 4 + n - at_) = wrapB ((bs.drop (to + 4)).take n) then some ((bs.drop (to + 4)).take n, to + 4 + n) else none
def frameE (e : Ent) : Option Bs := if mayE e then some (wrapB (putB e)) else none
def framesB : List Ent → Bs
  | [] => []
  | e :: r => wrapB (putB e) ++ framesB r
def allP (l : List Ent) : Bs × Int := if l.all mayE then (if l.length ≤ 2000 then (framesB l, 0) else ([], 8)) else ([], 1)
def readL (bs : Bs) : Nat → Nat → List Ent → List Ent × Nat
  | 0, at_, acc => (acc, at_)
  | f + 1, at_, acc => match openB bs at_ with
    | none => (acc, at_)
    | some (x, to) => match getE x with
      | none => (acc, at_)
      | some e => readL bs f to (acc ++ [e])
def readP (bs : Bs) : List Ent × Nat := readL bs 2000 0 []
def meetP : List Ent → List Ent → Nat
  | a :: r, b :: t => if a = b then meetP r t + 1 else 0
  | _, _ => 0

/-- A slice of entries. -/
abbrev RE (s : St) (x : S) (l : List Ent) : Prop := Rd 8 s x l.length (cells cE l)
abbrev FE (s0 s : St) (x : S) (l : List Ent) : Prop := Fr 8 s0 s x l.length (cells cE l)

section
variable {s t : St} {x y : S} {bs cs : Bs} {i : Nat} {l m : List Ent}

theorem RE.atE (h : RE s x l) {j : Nat} {n : Int} {e : Ent} (hn : n = j) (he : l[j]? = some e) : ∃ p, aIndexSl 8 (Z x) (I .i64 n) = some p ∧ aLoadN 8 p s.get = some (AE e) := by
  obtain ⟨c, p, h1, _, h3⟩ := Rd.at h hn (List.getElem?_eq_some_iff.1 he).1
  rw [cells_row cE_len he] at h3
  exact ⟨_, h1, h3⟩

theorem FE.lit {s0 : St} {e : Ent} (h : FE s0 s x l) (hl : l.length ≤ 1000000) :
    ∃ x' t s', aNew s (nSlice 1 (aFill [.int .i64 0, .int .i64 0, .int .i64 0, .int .i64 0, .int .i64 0, .int .i64 0, .int .u32 0, .str []] [(0, 8, AE e)])) = some (Z (.sl s.size 0 1 (.known 1)), s') ∧ aAppend 8 72 (Z x) (Z (.sl s.size 0 1 (.known 1))) s' = some (Z x', t) ∧ FE s0 t x' (l ++ [e]) ∧ s.size ≤ t.size := by
  have L := Fr.lit 8 h.gr.1 (n := 1) (vs := cells cE [e]) (by simp [cE])
  obtain ⟨x', t, e1, f, hz, k⟩ := (h.gr' L.gr).append (by_ := 72) (by omega) L.rd.src (by simp [cE]) (by omega)
  refine ⟨x', t, _, rfl, e1, ?_, Nat.le_trans L.gr.2.1 hz⟩
  unfold FE
  rw [cells_append, List.length_append]
  exact f

theorem more_run (d : Nat) {q0 : Nat} (hq0 : q0 < 4294967291) (h : RB s x bs) (hl : bs.length ≤ 8000) : R (d + 1) 68 [I .u32 (q0 : Nat), Z x] s = some (I .u32 (sumB q0 bs), s) := by
  rw [f68_run]
  unfold f68
  have hll := h.lenB
  obtain ⟨j, τ, lp, hj, hτ⟩ := loops_inv (f := f68_l1 (R d) 8192) (fun q v u => ∃ k n : Nat, q + k = bs.length ∧ v = [I .u64 n, Z x, I .i64 bs.length, I .i64 k] ∧ u = s ∧ n < 4294967291 ∧ sumB n (bs.drop k) = sumB q0 bs)
    (fun j u => j = .exit 0 [I .u64 (sumB q0 bs)] ∧ u = s) (by
    rintro q v u ⟨k, n, hk, rfl, rfl, hn, hg⟩
    by_cases hkl : k < bs.length
    · left
      have hc : bs[k]? = some bs[k] := List.getElem?_eq_getElem hkl
      have hd : bs.drop k = bs[k] :: bs.drop (k + 1) := List.drop_eq_getElem_cons hkl
      rw [hd] at hg
      obtain ⟨p, ix, ld⟩ := h.atB (n := (k : Int)) rfl hc
      have hcb : bs[k].toNat < 256 := bs[k].toNat_lt
      obtain ⟨A1, A2, A3, A4, hA4, m1, m2, m3, m4⟩ : ∃ A1 A2 A3 A4 : Int, A4 = (((n * 257 + bs[k].toNat + 1) % 4294967291 : Nat) : Int) ∧ aBin .mul (I .u64 n) (I .u64 257) = some (I .u64 A1) ∧ aBin .add (I .u64 A1) (I .u64 bs[k].toNat) = some (I .u64 A2) ∧
          aBin .add (I .u64 A2) (I .u64 1) = some (I .u64 A3) ∧ aBin .rem (I .u64 A3) (I .u64 4294967291) = some (I .u64 A4) := ⟨_, _, _, _, rfl, More.step n bs[k].toNat hn hcb u⟩
      have hw : IntKind.u64.wrap (bs[k].toNat : Int) = (bs[k].toNat : Int) := wrap64 _ (by omega)
      have w1 : IntKind.i64.wrap ((k : Int) + 1) = ((k + 1 : Nat) : Int) := by rw [wrap_in _ (by omega) (by omega)]; omega
      have c0 : ((k : Int) < (bs.length : Int)) = True := eq_true (by omega)
      refine ⟨[I .u64 (((n * 257 + bs[k].toNat + 1) % 4294967291 : Nat)), Z x, I .i64 bs.length, I .i64 ((k + 1 : Nat) : Int)], u, q - 1, ?_, by omega, k + 1, _, by omega, rfl, rfl, Nat.mod_lt _ (by decide), hg⟩
      unfold f68_l1
      generalize ((k + 1 : Nat) : Int) = K1 at w1 ⊢
      rw [← hA4]
      generalize (bs[k].toNat : Int) = C at m2 ld hw
      generalize (k : Int) = K at w1 ix c0 ⊢
      simp only [jn_normal, bd_some, List.getD_cons_zero, List.getD_cons_succ, lss_int, br_true, decide_true, c0, ix, ld, m1, m2, m3, m4, aConv_int, hw, add_int, w1]
    · right
      have hk' : k = bs.length := by omega
      have c0 : ¬ ((k : Int) < (bs.length : Int)) := by omega
      have hg' : n = sumB q0 bs := by
        rw [List.drop_eq_nil_of_le (by omega)] at hg
        exact hg
      refine ⟨.exit 0 [I .u64 (sumB q0 bs)], u, ?_, (fun v hv => by cases hv), rfl, rfl⟩
      unfold f68_l1
      rw [hg']
      simp [c0]) 8192 bs.length [I .u64 (q0 : Nat), Z x, I .i64 bs.length, I .i64 0] s ⟨0, q0, rfl, rfl, rfl, hq0, rfl⟩ (by omega)
  subst hj; subst hτ
  have hlt := sumB_lt bs q0 hq0
  have h32 : IntKind.u32.wrap (sumB q0 bs : Int) = (sumB q0 bs : Int) := by rw [wrap32, Nat.mod_eq_of_lt (by omega)]
  have e1 : aConv .u64 (I .u32 (q0 : Nat)) = some (I .u64 (q0 : Nat)) := by rw [aConv_int, wrap64 _ (by omega)]
  have e2 : aBin .rem (I .u64 (q0 : Nat)) (I .u64 4294967291) = some (I .u64 (q0 : Nat)) := by
    rw [rem_int _ _ _ (by decide), Int.tmod_eq_emod_of_nonneg (by omega), Int.emod_eq_of_lt (by omega) (by omega)]
  simp [e1, e2, hll, lp, h32]

theorem low_run (d : Nat) (wf : s.wf) (q : Nat) : ∃ y t, R (d + 1) 67 [I .u32 q] s = some (Z y, t) ∧ FB s t y (four q) := by
  rw [f67_run]
  unfold f67
  have nw := lit4 s (q % 256) (q / 2 ^ 8 % 256) (q / 2 ^ 16 % 256) (q / 2 ^ 24 % 256)
  have hU : U (four q) = [.int .u8 (q % 256 : Nat), .int .u8 (q / 2 ^ 8 % 256 : Nat), .int .u8 (q / 2 ^ 16 % 256 : Nat), .int .u8 (q / 2 ^ 24 % 256 : Nat)] := by
    simp only [U, four, List.map_cons, List.map_nil, byte_nat]
  rw [← hU] at nw
  have c0 := wrap8 q
  have c1 := wrap8 (q / 2 ^ 8)
  have c2 := wrap8 (q / 2 ^ 16)
  have c3 := wrap8 (q / 2 ^ 24)
  have r1 : aBin .shr (I .u32 q) (I .u64 8) = some (I .u32 ((q / 2 ^ 8 : Nat))) := shr_nat .u32 q 8 (by decide)
  have r2 : aBin .shr (I .u32 q) (I .u64 16) = some (I .u32 ((q / 2 ^ 16 : Nat))) := shr_nat .u32 q 16 (by decide)
  have r3 : aBin .shr (I .u32 q) (I .u64 24) = some (I .u32 ((q / 2 ^ 24 : Nat))) := shr_nat .u32 q 24 (by decide)
  refine ⟨_, _, ?_, Fr.lit 1 wf (n := 4) (vs := U (four q)) rfl⟩
  generalize s.push (.cells true (U (four q))) = t at nw ⊢
  generalize ((q / 2 ^ 8 % 256 : Nat) : Int) = Q1 at nw c1
  generalize ((q / 2 ^ 16 % 256 : Nat) : Int) = Q2 at nw c2
  generalize ((q / 2 ^ 24 % 256 : Nat) : Int) = Q3 at nw c3
  generalize ((q % 256 : Nat) : Int) = Q0 at nw c0
  generalize ((q / 2 ^ 8 : Nat) : Int) = P1 at r1 c1
  generalize ((q / 2 ^ 16 : Nat) : Int) = P2 at r2 c2
  generalize ((q / 2 ^ 24 : Nat) : Int) = P3 at r3 c3
  generalize (q : Int) = Q at *
  simp [c0, c1, c2, c3, r1, r2, r3, nw]

def lenSum : List Bs → Nat
  | [] => 0
  | b :: r => b.length + lenSum r
theorem lenSum_flat : ∀ l : List Bs, l.flatten.length = lenSum l
  | [] => rfl
  | b :: r => by simp [lenSum, lenSum_flat r]
theorem lenSum_snoc : ∀ (l : List Bs) (b : Bs), lenSum (l ++ [b]) = lenSum l + b.length
  | [], b => by simp [lenSum]
  | a :: r, b => by simp [lenSum, lenSum_snoc r b]; omega
theorem lenSum_take (l : List Bs) (k : Nat) : lenSum (l.take k) ≤ lenSum l := by
  induction l generalizing k with
  | nil => simp [lenSum]
  | cons a r ih =>
    cases k with
    | zero => simp [lenSum]
    | succ k => have := ih k; simp [lenSum]; omega

theorem concat_run (d : Nat) (wf : s.wf) {ys : List S} {bss : List Bs} (hx : Rd 1 s x ys.length ys) (hox : ∀ c, own x = some c → c < s.size) (hlen : ys.length = bss.length) (hys : ∀ (j : Nat) y b, ys[j]? = some y → bss[j]? = some b → RB s y b ∧ ∀ c, own y = some c → c < s.size)
    (h0 : 0 < lenSum bss) (hT : lenSum bss ≤ 100000) (hl : ys.length ≤ 100) : ∃ z t, R (d + 2) 66 [Z x] s = some (Z z, t) ∧ FB s t z bss.flatten := by
  rw [f66_run]
  unfold f66
  have hll := hx.lens
  -- the sizes
  obtain ⟨j, τ, lp, hj, hτ⟩ := loops_inv (f := f66_l1 (R (d + 1)) 8192) (fun q v u => ∃ k : Nat, q + k = ys.length ∧ v = [Z x, I .i64 (lenSum (bss.take k) : Nat), Z x, I .i64 ys.length, I .i64 k] ∧ u = s)
    (fun j u => j = .exit 0 [Z x, I .i64 (lenSum bss : Nat)] ∧ u = s) (by
    rintro q v u ⟨k, hk, rfl, rfl⟩
    by_cases hkl : k < ys.length
    · left
      have hc : ys[k]? = some ys[k] := List.getElem?_eq_getElem hkl
      have hb : bss[k]? = some (bss[k]'(by omega)) := List.getElem?_eq_getElem (by omega)
      obtain ⟨p, ix, ld⟩ := Rd.at1 hx (i := (k : Int)) rfl hc
      obtain ⟨ry, _⟩ := hys k _ _ hc hb
      have hyl := ry.lenB
      have htk : bss.take (k + 1) = bss.take k ++ [bss[k]'(by omega)] := by rw [List.take_add_one, hb]; rfl
      have h1 := lenSum_take bss (k + 1)
      have hs : lenSum (bss.take (k + 1)) = lenSum (bss.take k) + (bss[k]'(by omega)).length := by rw [htk, lenSum_snoc]
      have c0 : (k : Int) < (ys.length : Int) := by omega
      have w1 : IntKind.i64.wrap ((k : Int) + 1) = ((k + 1 : Nat) : Int) := by rw [wrap_in _ (by omega) (by omega)]; omega
      have wa : IntKind.i64.wrap ((lenSum (bss.take k) : Nat) + ((bss[k]'(by omega)).length : Int)) = ((lenSum (bss.take (k + 1)) : Nat) : Int) := by rw [wrap_in _ (by omega) (by omega)]; omega
      have c1 : ¬ ((lenSum (bss.take (k + 1)) : Nat) : Int) < 0 := by omega
      refine ⟨[Z x, I .i64 (lenSum (bss.take (k + 1)) : Nat), Z x, I .i64 ys.length, I .i64 ((k + 1 : Nat) : Int)], u, q - 1, ?_, by omega, k + 1, by omega, rfl, rfl⟩
      unfold f66_l1
      generalize ((k + 1 : Nat) : Int) = K1 at w1 ⊢
      generalize ((lenSum (bss.take (k + 1)) : Nat) : Int) = S1 at wa c1 ⊢
      generalize ((lenSum (bss.take k) : Nat) : Int) = S0 at wa ⊢
      generalize ((bss[k]'(by omega)).length : Int) = B1 at *
      generalize (k : Int) = K at *
      generalize (ys.length : Int) = L at *
      simp [c0, ix, ld, hyl, wa, c1, w1]
    · right
      have hk' : k = ys.length := by omega
      subst hk'
      rw [hlen, List.take_length]
      refine ⟨.exit 0 [Z x, I .i64 (lenSum bss : Nat)], u, ?_, (fun v hv => by cases hv), rfl, rfl⟩
      unfold f66_l1
      simp) 8192 ys.length [Z x, I .i64 0, Z x, I .i64 ys.length, I .i64 0] s ⟨0, rfl, by simp [lenSum], rfl⟩ (by omega)
  subst hτ; subst hj
  -- a new row
  obtain ⟨TN, hTd⟩ : ∃ TN, TN = lenSum bss := ⟨_, rfl⟩
  rw [← hTd] at lp h0 hT
  obtain ⟨s1, hs1⟩ : ∃ s1, s1 = τ.push (.cells true (zeros TN [.int .u8 0])) := ⟨_, rfl⟩
  have g1 : Gr τ s1 := by rw [hs1]; exact Gr.push wf _
  have hg : R (d + 1) 86 [Z .nils, I .i64 (TN : Nat)] τ = some (Z (.sl τ.size 0 0 (.grown 1)), s1) := by
    rw [f86_run]
    unfold f86
    have c0 : ¬ ((TN : Nat) : Int) < 0 := by omega
    have c1 : (0 : Int) < ((TN : Nat) : Int) := by omega
    have w0 : IntKind.i64.wrap 0 = 0 := rfl
    have wT : IntKind.i64.wrap ((TN : Nat) : Int) = ((TN : Nat) : Int) := wrap_in _ (by omega) (by omega)
    have cap : aCap (Z .nils) = some (I .i64 0) := rfl
    have pc0 : aPieceSl 1 (Z .nils) none (some (I .i64 0)) none = some (Z .nils) := rfl
    have gr : aGrow 1 1 [.int .u8 0] (Z .nils) (I .i64 ((TN : Nat) : Int)) τ = some (Z (.sl τ.size 0 TN (.grown 1)), s1) := by
      simp only [aGrow, Int.toNat_natCast, hs1]
      rw [if_pos ⟨c1, by omega, by decide⟩]
    have pc1 : aPieceSl 1 (Z (.sl τ.size 0 TN (.grown 1))) none (some (I .i64 0)) none = some (Z (.sl τ.size 0 0 (.grown 1))) := by
      unfold aPieceSl
      dsimp only
      rw [if_pos rfl, show (I .i64 0 : T) = I .i64 ((0 : Nat) : Int) from rfl, aBounds_hi (Nat.zero_le _)]
      dsimp only
      rw [if_pos h0]
    generalize ((TN : Nat) : Int) = TT at *
    simp [c0, cap, w0, wT, c1, pc0, gr, pc1]
  have f1 : FB τ s1 (.sl τ.size 0 0 (.grown 1)) [] := by
    refine ⟨g1, ⟨by simp, .inr (.inr ⟨τ.size, zeros TN [.int .u8 0], _, rfl, .inl rfl, by rw [hs1]; exact St.get_push_same _ _, by simp, by simp [U]⟩)⟩, fun c hc => by cases hc; exact ⟨Nat.le_refl _, by rw [hs1]; simp⟩⟩
  obtain ⟨j, σ, lp2, z, rfl, fz⟩ := loops_inv (f := f66_l2 (R (d + 1)) 8192) (fun q v u => ∃ (k : Nat) (z : S), q + k = ys.length ∧ v = [Z z, Z x, I .i64 ys.length, I .i64 k] ∧ FB τ u z (bss.take k).flatten)
    (fun j u => ∃ z, j = .exit 2 [Z z] ∧ FB τ u z bss.flatten) (by
    rintro q v u ⟨k, z, hk, rfl, hf⟩
    by_cases hkl : k < ys.length
    · left
      have hc : ys[k]? = some ys[k] := List.getElem?_eq_getElem hkl
      have hb : bss[k]? = some (bss[k]'(by omega)) := List.getElem?_eq_getElem (by omega)
      obtain ⟨p, ix, ld⟩ := Rd.at1 (hx.gr hox hf.gr) (i := (k : Int)) rfl hc
      obtain ⟨ry, oy⟩ := hys k _ _ hc hb
      have htk : bss.take (k + 1) = bss.take k ++ [bss[k]'(by omega)] := by rw [List.take_add_one, hb]; rfl
      have h1 := lenSum_take bss (k + 1)
      have hs : lenSum (bss.take (k + 1)) = lenSum (bss.take k) + (bss[k]'(by omega)).length := by rw [htk, lenSum_snoc]
      have c0 : (k : Int) < (ys.length : Int) := by omega
      have w1 : IntKind.i64.wrap ((k : Int) + 1) = ((k + 1 : Nat) : Int) := by rw [wrap_in _ (by omega) (by omega)]; omega
      obtain ⟨z', u', ap, hf', _⟩ := FB.app hf (Rd.gr ry oy hf.gr) (by rw [lenSum_flat]; omega)
      refine ⟨[Z z', Z x, I .i64 ys.length, I .i64 ((k + 1 : Nat) : Int)], u', q - 1, ?_, by omega, k + 1, z', by omega, rfl, by rw [htk, List.flatten_append]; simpa using hf'⟩
      unfold f66_l2
      generalize ((k + 1 : Nat) : Int) = K1 at w1 ⊢
      generalize (k : Int) = K at *
      generalize (ys.length : Int) = L at *
      simp [c0, ix, ld, ap, w1]
    · right
      have hk' : k = ys.length := by omega
      subst hk'
      rw [hlen, List.take_length] at hf
      refine ⟨.exit 2 [Z z], u, ?_, (fun v hv => by cases hv), z, rfl, hf⟩
      unfold f66_l2
      simp) 8192 ys.length [Z (.sl τ.size 0 0 (.grown 1)), Z x, I .i64 ys.length, I .i64 0] s1 ⟨0, _, by omega, rfl, by simpa using f1⟩ (by omega)
  refine ⟨z, σ, ?_, fz⟩
  simp [hll, lp, hg, lp2]

theorem wrap_run (d : Nat) (wf : s.wf) (h : RB s x bs) (hox : ∀ c, own x = some c → c < s.size) (hl : bs.length ≤ 8000) : ∃ z t, R (d + 3) 40 [Z x] s = some (Z z, t) ∧ FB s t z (wrapB bs) := by
  rw [f40_run]
  unfold f40
  have hll := h.lenB
  have w0 : IntKind.u64.wrap (bs.length : Int) = (bs.length : Int) := wrap64 _ (by omega)
  obtain ⟨y1, s1, e1, f1⟩ := vput_run (d + 1) wf bs.length (by omega)
  have hvl := vput_len bs.length
  have e2 := sum_run d f1.rd (by omega)
  have hlt := sumB_lt (vput bs.length) 1 (by decide)
  have rx1 : RB s1 x bs := h.gr hox f1.gr
  have e3 := more_run (d + 1) hlt rx1 hl
  obtain ⟨y4, s4, e4, f4⟩ := low_run (d + 1) f1.gr.wf (sumB (sumB 1 (vput bs.length)) bs)
  have g4 := f1.gr.trans f4.gr
  obtain ⟨s5, hs5⟩ : ∃ s5, s5 = s4.push (.cells true [y1, y4, x]) := ⟨_, rfl⟩
  have nw : aNew s4 (nSlice 3 (aFill [.nils, .nils, .nils] [(0, 1, Z y1), (1, 1, Z y4), (2, 1, Z x)])) = some (Z (.sl s4.size 0 3 (.known 3)), s5) := by rw [hs5]; rfl
  have L := Fr.lit 1 g4.wf (n := 3) (vs := [y1, y4, x]) rfl
  rw [← hs5] at L
  have g5 := g4.trans L.gr
  have r1 : RB s5 y1 (vput bs.length) := (f1.rd.gr (fun c hc => (f1.new c hc).2) f4.gr).gr (fun c hc => Nat.lt_of_lt_of_le (f1.new c hc).2 f4.gr.2.1) L.gr
  have r4 : RB s5 y4 (four (sumB (sumB 1 (vput bs.length)) bs)) := f4.rd.gr (fun c hc => (f4.new c hc).2) L.gr
  have rx : RB s5 x bs := h.gr hox g5
  have hpos : 0 < (vput bs.length).length := by unfold vput putN; split <;> simp
  obtain ⟨z, t, e6, f6⟩ := concat_run d L.gr.wf (ys := [y1, y4, x]) (bss := [vput bs.length, four (sumB (sumB 1 (vput bs.length)) bs), bs]) L.rd (fun c hc => (L.new c hc).2) rfl (fun j y b hy hb => by
    have z5 : s4.size ≤ s5.size := L.gr.2.1
    match j with
    | 0 => simp at hy hb; subst hy; subst hb; exact ⟨r1, fun c hc => by have := (f1.new c hc).2; have := f4.gr.2.1; omega⟩
    | 1 => simp at hy hb; subst hy; subst hb; exact ⟨r4, fun c hc => by have := (f4.new c hc).2; omega⟩
    | 2 => simp at hy hb; subst hy; subst hb; exact ⟨rx, fun c hc => by have := hox c hc; have := g5.2.1; omega⟩
    | j + 3 => simp at hy) (by simp [lenSum]; omega) (by simp [lenSum, four]; omega) (by simp)
  have hw : [vput bs.length, four (sumB (sumB 1 (vput bs.length)) bs), bs].flatten = wrapB bs := by simp [wrapB, sumB_append]
  rw [hw] at f6
  refine ⟨z, t, ?_, f6.from g5⟩
  simp only [Nat.add_assoc, Nat.reduceAdd] at e1 e3 e4
  generalize (bs.length : Int) = BL at *
  simp [hll, w0, e1, e2, e3, e4, nw, e6]
end
end Go.Proofs.YtlhbidbdmdcdeaaGreatDoor
