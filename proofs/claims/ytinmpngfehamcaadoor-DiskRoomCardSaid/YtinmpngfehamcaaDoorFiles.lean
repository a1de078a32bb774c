/-
  DiskKeeps and DiskCuts return true, whatever the bytes and the numbers. No conditions.
-/
import Derived.Test.YtinmpngfehamcaaDoorOps2
namespace Go.Proofs.YtinmpngfehamcaaDoor
open Go Go.Abs Go.Abs.F
set_option linter.unusedVariables false

set_option maxRecDepth 100000 in
theorem may_f : May [102] := fun s => (orP_right rfl).trans ((orP_right rfl).trans (pureP_val rfl (by kernel_rfl) rfl))

/-- A slice that came as an argument. -/
structure Arg (s : St) (x : S) (l : List S) : Prop where
  form : (x = .nils ∧ l = []) ∨ ∃ c cap, l.length ≤ cap ∧ x = .sl c 0 l.length (.known cap) ∧ c < s.size ∧ s.get c = some (argBlk l)
  bytes : AllB l

theorem Arg.rd {s : St} {x : S} {l : List S} (h : Arg s x l) : Rd s x l := by
  rcases h.form with ⟨rfl, rfl⟩ | ⟨c, cap, hl, rfl, _, hg⟩
  · exact .inl ⟨rfl, .inl rfl⟩
  · cases l with
    | nil => exact .inl ⟨rfl, .inr (.inr ⟨c, 0, _, rfl⟩)⟩
    | cons a r => exact .inr ⟨c, 0, _, false, a :: r, rfl, hg, by simp, by simp⟩

theorem Arg.lt {s : St} {x : S} {l : List S} (h : Arg s x l) : ∀ c, own x = some c → c < s.size := fun c hc => by
  rcases h.form with ⟨rfl, rfl⟩ | ⟨c', cap, hl, rfl, hlt, hg⟩
  · cases hc
  · cases hc; exact hlt

theorem Arg.gr {s t : St} {x : S} {l : List S} (h : Arg s x l) (g : ∀ b, b < s.size → t.get b = s.get b) (hsz : s.size ≤ t.size) : Arg t x l := by
  refine ⟨?_, h.bytes⟩
  rcases h.form with h | ⟨c, cap, hl, rfl, hlt, hg⟩
  · exact .inl h
  · exact .inr ⟨c, cap, hl, rfl, by omega, by rw [g c hlt]; exact hg⟩

theorem arg_of {s : St} {a : T} {c : Nat} {rows : List (List S)} (h : SlOf a c rows) (hr : ∀ x ∈ rows, All2 KS [.int .u8] x) (hc : c < s.size) (hg : s.get c = some (argBlk rows.flatten)) : ∃ x, a = Z x ∧ Arg s x rows.flatten := by
  have hone : ∀ x ∈ rows, ∃ n, x = [S.int .u8 n] := fun x hx => by
    obtain ⟨ns, hn, hl, _⟩ := ints_of (ks := [.u8]) (hr x hx)
    match ns, hl with
    | [n], _ => exact ⟨n, hn⟩
  have hlen : rows.flatten.length = rows.length := by
    clear hr hg h
    induction rows with
    | nil => rfl
    | cons r l ih =>
      obtain ⟨n, rfl⟩ := hone r List.mem_cons_self
      rw [List.flatten_cons, List.length_append, ih fun x hx => hone x (List.mem_cons_of_mem _ hx)]
      simp
      omega
  have hb : AllB rows.flatten := fun y hy => by
    obtain ⟨r, hr1, hy⟩ := List.mem_flatten.1 hy
    obtain ⟨n, rfl⟩ := hone r hr1
    simp at hy
    exact ⟨n, hy⟩
  rcases h with ⟨rfl, rfl⟩ | ⟨cap, hcap, rfl⟩
  · exact ⟨_, rfl, .inl ⟨rfl, rfl⟩, hb⟩
  · exact ⟨_, rfl, .inr ⟨c, cap, by omega, by rw [hlen], hc, hg⟩, hb⟩

/-- Its beginning. -/
theorem Arg.cut {s : St} {x : S} {l : List S} (h : Arg s x l) {k : Nat} (hk : k ≤ l.length) : ∃ y, aPieceSl 1 (Z x) none (some (I .i64 k)) none = some (Z y) ∧ Rd s y (l.take k) ∧ ∀ c, own y = some c → own x = some c := by
  rcases h.form with ⟨rfl, rfl⟩ | ⟨c, cap, hl, rfl, _, hg⟩
  · have : k = 0 := by simpa using hk
    subst this
    exact ⟨.nils, rfl, .inl ⟨rfl, .inl rfl⟩, fun c hc => hc⟩
  · refine ⟨.sl c 0 k (.known cap), ?_, ?_, fun c hc => hc⟩
    · unfold aPieceSl
      dsimp only
      rw [aBounds_hi (by omega)]
      dsimp only
      by_cases hz : cap = 0 <;> simp [hz]
    · cases l with
      | nil =>
        have : k = 0 := by simpa using hk
        subst this
        exact .inl ⟨rfl, .inr (.inr ⟨c, 0, _, rfl⟩)⟩
      | cons a r =>
        have hlen : ((a :: r).take k).length = k := by rw [List.length_take]; omega
        refine .inr ⟨c, 0, .known cap, false, a :: r, by rw [hlen], hg, by rw [hlen]; omega, by rw [hlen]; simp⟩

theorem bytesOf_append (l r : List S) : bytesOf (l ++ r) = bytesOf l ++ bytesOf r := by simp [bytesOf]

theorem str_add (a b : List UInt8) (h : a.length + b.length ≤ 100000) : aBin .add (Z (.str a)) (Z (.str b)) = some (Z (.str (a ++ b))) := by
  have : ¬ (((a.length + b.length : Nat) : Int) > IntKind.i64.max) := by
    have : IntKind.i64.max = 9223372036854775807 := rfl
    rw [this]
    omega
  simp only [aBin, aStr, if_neg this]

theorem str_eql (a : List UInt8) : aBin .eql (Z (.str a)) (Z (.str a)) = some (B true) := by simp [aBin, aStr]

theorem keeps_run (s0 : St) (wf : s0.wf) {a b : S} {la lb : List S} (ha : Arg s0 a la) (hb : Arg s0 b lb) (keep : Int) : ∃ τ, R 6 3 [Z a, Z b, I .i64 keep] s0 = some (B true, τ) := by
  rw [f3_run]
  unfold f3
  obtain ⟨s1, e1, h1, g1⟩ := new_run (room := 1000) 4 wf (by omega) (by omega)
  generalize s0.size + 1 = i at e1 h1
  have lla := ha.rd.len
  have llb := hb.rd.len
  by_cases hlong : 60 < la.length ∨ 60 < lb.length
  · have e6 := told_run 4 s1
    simp only [Nat.reduceAdd] at e1 e6
    generalize R 5 = r at e1 e6 ⊢
    refine ⟨s1, ?_⟩
    by_cases hla : (60 : Int) < la.length
    · simp [e1, lla, llb, hla, e6]
    · have hlb : (60 : Int) < lb.length := by omega
      simp [e1, lla, llb, hla, hlb, e6]
  · have c1 : ¬ (60 : Int) < la.length := by omega
    have c2 : ¬ (60 : Int) < lb.length := by omega
    have ha1 := ha.gr g1.2.2 g1.2.1
    have hb1 := hb.gr g1.2.2 g1.2.1
    -- a is appended
    obtain ⟨x1, fb, s2, e2, h2, z2, k2, hfb, hx1⟩ := append_new 2 h1 ⟨by simp, by simp⟩ (nm := [102]) (by simp) may_f ha1.rd ha1.lt (fun e => by
      have := ha.lt _ e
      omega) (by simp [tot]; omega) (by omega)
    rw [List.nil_append] at h2
    -- synced
    obtain ⟨s3, e3, h3, z3, k3⟩ := sync_run 2 h2 (k := 0) rfl may_f
    simp only [List.set_cons_zero] at h3
    have old3 : ∀ c, c < s0.size → s3.get c = s0.get c := fun c hc => by
      have := g1.2.1
      rw [k3 c (by show c ≠ fb; omega), k2 c (by omega) (by omega), g1.2.2 c hc]
    have hb3 : Arg s3 b lb := hb.gr old3 (by have := g1.2.1; omega)
    -- b is appended
    obtain ⟨x4, s4, e4, h4, z4, k4, o4⟩ := append_run 2 h3 ⟨by simp, by simp⟩ (k := 0) rfl may_f hb3.rd hb3.lt (by simp [tot]; omega) (by omega) (by show la.length + lb.length ≤ 50000; omega)
    simp only [List.set_cons_zero] at h4
    have hx4 : ∀ c, own x4 = some c → s0.size ≤ c := fun c hc => by
      have := g1.2.1
      rcases o4 with e | e | ⟨c', e, hc'⟩
      · rw [e] at hc; cases hc
      · rw [e] at hc; have := hx1 c hc; omega
      · rw [e] at hc; cases hc; omega
    have old4 : ∀ c, c < s0.size → s4.get c = s0.get c := fun c hc => by
      have := g1.2.1
      rw [k4 c (by omega) (by show c ≠ fb; omega) (fun e => by have := hx1 c e; omega), old3 c hc]
    -- a crash that keeps so many
    obtain ⟨n, hn⟩ : ∃ n : Nat, (n : Int) = min (max keep 0) (lb.length : Int) := ⟨(min (max keep 0) (lb.length : Int)).toNat, by omega⟩
    have hnl : n ≤ lb.length := by omega
    obtain ⟨s5, hs5⟩ : ∃ s5, s5 = s4.push (.cells true [.int .i64 keep]) := ⟨_, rfl⟩
    have g5 : Gr s4 s5 := by rw [hs5]; exact Gr.push h4.wf _
    have nw : aNew s4 (nSlice 1 (aFill [.int .i64 0] [(0, 1, I .i64 keep)])) = some (Z (.sl s4.size 0 1 (.known 1)), s5) := by simp [aNew, nSlice, aFill, V.cells, setRange, hs5]
    have hk5 : s5.get s4.size = some (.cells true [.int .i64 keep]) := by rw [hs5]; exact St.get_push_same _ _
    obtain ⟨x6, s6, e6, h6, z6, k6, o6⟩ := crash_run (n := n) 3 (h4.gr g5) (by simp) (y := .sl s4.size 0 1 (.known 1)) (.inr ⟨s4.size, keep, rfl, aIndexSl_int (j := 0) rfl (by omega), by rw [hs5]; simp, aLoad1_of hk5 rfl, by
      show (n : Int) = min (max keep 0) (((la ++ lb).length : Int) - (la.length : Int))
      have hd : (((la ++ lb).length : Nat) : Int) - (la.length : Int) = (lb.length : Int) := by rw [List.length_append]; omega
      rw [hn, hd]⟩) (by show la.length + n ≤ (la ++ lb).length; rw [List.length_append]; omega)
    have hx6 : ∀ c, own x6 = some c → s0.size ≤ c := fun c hc => by
      rcases o6 with e | e
      · rw [e] at hc; cases hc
      · rw [e] at hc; exact hx4 c hc
    have hl6 : (la ++ lb).take (la.length + n) = la ++ lb.take n := by rw [List.take_append, List.take_of_length_le (by omega)]; simp
    simp only [hl6] at h6
    -- read
    obtain ⟨y7, s7, e7, g7, r7, o7⟩ := read_run 2 h6 (k := 0) rfl may_f
    have h7 := h6.gr g7
    have hl67 : (la ++ lb.take n).length = la.length + n := by rw [List.length_append, List.length_take]; omega
    -- a crash that keeps nothing
    obtain ⟨x8, s8, e8, h8, z8, k8, o8⟩ := crash_run (n := 0) 3 h7 (by simp) (y := .nils) (.inl ⟨rfl, rfl⟩) (by simp only [hl67]; omega)
    have hl8 : (la ++ lb.take n).take (la.length + n + 0) = la ++ lb.take n := List.take_of_length_le (by omega)
    simp only [hl8] at h8
    obtain ⟨y9, s9, e9, g9, r9, o9⟩ := read_run 2 h8 (k := 0) rfl may_f
    have e10 := told_run 4 s9
    -- what reads at the end
    have z56 := g5.2.1
    have z67 := g7.2.1
    have z89 := g9.2.1
    have z01 := g1.2.1
    have fb6 : fb < s6.size := by have := h6.wf.lt (h6.fl 0 _ rfl).1; exact this
    have old9 : ∀ c, c < s0.size → s9.get c = s0.get c := fun c hc => by
      rw [g9.2.2 c (by omega), k8 c (by omega) (by show c ≠ fb; omega), g7.2.2 c (by omega), k6 c (by omega) (by show c ≠ fb; omega), g5.2.2 c (by omega), old4 c hc]
    have ha9 : Arg s9 a la := ha.gr old9 (by omega)
    have hb9 : Arg s9 b lb := hb.gr old9 (by omega)
    have r79 : Rd s9 y7 (la ++ lb.take n) := r7.keep fun c hc => by
      have := o7 c hc
      rw [g9.2.2 c (by omega), k8 c (by omega) (by show c ≠ fb; omega)]
    have hall : AllB (la ++ lb.take n) := ha.bytes.append (hb.bytes.take n)
    obtain ⟨yb, pc, rb, _⟩ := hb9.cut hnl
    have t1 := r79.str hall
    have t2 := r9.str hall
    have t3 := ha9.rd.str ha.bytes
    have t4 := rb.str (hb.bytes.take n)
    have t5 := str_add (bytesOf la) (bytesOf (lb.take n)) (by simp [bytesOf, List.length_take]; omega)
    rw [← bytesOf_append] at t5
    have t6 := str_eql (bytesOf (la ++ lb.take n))
    rw [hn] at pc
    have mx : max keep 0 = max 0 keep := by omega
    simp only [Nat.reduceAdd] at e1 e2 e3 e4 e6 e7 e8 e9 e10
    generalize R 5 = r at e1 e2 e3 e4 e6 e7 e8 e9 e10 ⊢
    refine ⟨s9, ?_⟩
    simp [e1, lla, llb, c1, c2, e2, e3, e4, nw, e6, e7, aExtract, e8, e9, e10, t1, t2, t3, t4, t5, t6, pc]

theorem cuts_run (s0 : St) (wf : s0.wf) {a b : S} {la lb : List S} (ha : Arg s0 a la) (hb : Arg s0 b lb) (cut : Int) : ∃ τ, R 6 4 [Z a, I .i64 cut, Z b] s0 = some (B true, τ) := by
  rw [f4_run]
  unfold f4
  obtain ⟨s1, e1, h1, g1⟩ := new_run (room := 1000) 4 wf (by omega) (by omega)
  generalize s0.size + 1 = i at e1 h1
  have lla := ha.rd.len
  have llb := hb.rd.len
  by_cases hlong : la.length < 1 ∨ 60 < la.length ∨ 20 < lb.length
  · have e6 := told_run 4 s1
    simp only [Nat.reduceAdd] at e1 e6
    generalize R 5 = r at e1 e6 ⊢
    refine ⟨s1, ?_⟩
    by_cases hl0 : (la.length : Int) < 1
    · simp [e1, lla, llb, hl0, e6]
    · by_cases hla : (60 : Int) < la.length
      · simp [e1, lla, llb, hl0, hla, e6]
      · have hlb : (20 : Int) < lb.length := by omega
        simp [e1, lla, llb, hl0, hla, hlb, e6]
  · have c0 : ¬ (la.length : Int) < 1 := by omega
    have c1 : ¬ (60 : Int) < la.length := by omega
    have c2 : ¬ (20 : Int) < lb.length := by omega
    obtain ⟨K, hK0, hK1, hK, hK', _⟩ := mod_u cut ((la.length : Int) + 1) (by omega) (by omega)
    obtain ⟨k, hk, rfl⟩ := nat_of (m := K) (n := la.length + 1) hK0 (by omega)
    have w1 : IntKind.i64.wrap ((la.length : Int) + 1) = (la.length : Int) + 1 := wrap_in _ (by omega) (by omega)
    have w2 : IntKind.u64.wrap ((la.length : Int) + 1) = (la.length : Int) + 1 := wrap_u64_in _ (by omega) (by omega)
    have ha1 := ha.gr g1.2.2 g1.2.1
    -- a is appended
    obtain ⟨x1, fb, s2, e2, h2, z2, k2, hfb, hx1⟩ := append_new 2 h1 ⟨by simp, by simp⟩ (nm := [102]) (by simp) may_f ha1.rd ha1.lt (fun e => by
      have := ha.lt _ e
      omega) (by simp [tot]; omega) (by omega)
    rw [List.nil_append] at h2
    have z01 := g1.2.1
    -- synced
    obtain ⟨s3, e3, h3, z3, k3⟩ := sync_run 2 h2 (k := 0) rfl may_f
    simp only [List.set_cons_zero] at h3
    have old3 : ∀ c, c < s0.size → s3.get c = s0.get c := fun c hc => by rw [k3 c (by show c ≠ fb; omega), k2 c (by omega) (by omega), g1.2.2 c hc]
    -- cut
    obtain ⟨x4, s4, e4, h4, z4, k4, o4⟩ := cut_run 2 h3 (k := 0) rfl may_f (n := k) (by show k ≤ la.length; omega)
    have hmin : min la.length k = k := by omega
    simp only [List.set_cons_zero, hmin] at h4
    have hx4 : ∀ c, own x4 = some c → s0.size ≤ c := fun c hc => by
      rcases o4 with e | e
      · rw [e] at hc; cases hc
      · rw [e] at hc; have := hx1 c hc; omega
    have old4 : ∀ c, c < s0.size → s4.get c = s0.get c := fun c hc => by rw [k4 c (by show c ≠ fb; omega), old3 c hc]
    have hb4 : Arg s4 b lb := hb.gr old4 (by omega)
    have hlk : (la.take k).length = k := by rw [List.length_take]; omega
    -- b is appended
    obtain ⟨x5, s5, e5, h5, z5, k5, o5⟩ := append_run 2 h4 ⟨by simp, by simp⟩ (k := 0) rfl may_f hb4.rd hb4.lt (by simp [tot]; omega) (by omega) (by show (la.take k).length + lb.length ≤ 50000; omega)
    simp only [List.set_cons_zero] at h5
    have hx5 : ∀ c, own x5 = some c → s0.size ≤ c := fun c hc => by
      rcases o5 with e | e | ⟨c', e, hc'⟩
      · rw [e] at hc; cases hc
      · rw [e] at hc; exact hx4 c hc
      · rw [e] at hc; cases hc; omega
    have old5 : ∀ c, c < s0.size → s5.get c = s0.get c := fun c hc => by rw [k5 c (by omega) (by show c ≠ fb; omega) (fun e => by have := hx4 c e; omega), old4 c hc]
    -- read
    obtain ⟨y7, s7, e7, g7, r7, o7⟩ := read_run 2 h5 (k := 0) rfl may_f
    have h7 := h5.gr g7
    have hl5 : (la.take k ++ lb).length = k + lb.length := by rw [List.length_append, hlk]
    -- a crash that keeps nothing
    obtain ⟨x8, s8, e8, h8, z8, k8, o8⟩ := crash_run (n := 0) 3 h7 (by simp) (y := .nils) (.inl ⟨rfl, rfl⟩) (by simp only [hl5]; omega)
    have hl8 : (la.take k ++ lb).take (k + 0) = la.take k := by rw [Nat.add_zero, List.take_append_of_le_length (by omega), List.take_take, Nat.min_self]
    simp only [hl8] at h8
    obtain ⟨y9, s9, e9, g9, r9, o9⟩ := read_run 2 h8 (k := 0) rfl may_f
    have e10 := told_run 4 s9
    have z67 := g7.2.1
    have z89 := g9.2.1
    have fb5 : fb < s5.size := by have := h5.wf.lt (h5.fl 0 _ rfl).1; exact this
    have old9 : ∀ c, c < s0.size → s9.get c = s0.get c := fun c hc => by
      rw [g9.2.2 c (by omega), k8 c (by omega) (by show c ≠ fb; omega), g7.2.2 c (by omega), old5 c hc]
    have ha9 : Arg s9 a la := ha.gr old9 (by omega)
    have hb9 : Arg s9 b lb := hb.gr old9 (by omega)
    have r79 : Rd s9 y7 (la.take k ++ lb) := r7.keep fun c hc => by
      have := o7 c hc
      rw [g9.2.2 c (by omega), k8 c (by omega) (by show c ≠ fb; omega)]
    obtain ⟨ya, pc, ra, _⟩ := ha9.cut (k := k) (by omega)
    have t1 := r79.str ((ha.bytes.take k).append hb.bytes)
    have t2 := r9.str (ha.bytes.take k)
    have t3 := hb9.rd.str hb.bytes
    have t4 := ra.str (ha.bytes.take k)
    have t5 := str_add (bytesOf (la.take k)) (bytesOf lb) (by simp [bytesOf, List.length_take]; omega)
    rw [← bytesOf_append] at t5
    have t6 := str_eql (bytesOf (la.take k ++ lb))
    have t7 := str_eql (bytesOf (la.take k))
    simp only [Nat.reduceAdd] at e1 e2 e3 e4 e5 e7 e8 e9 e10
    generalize R 5 = r at e1 e2 e3 e4 e5 e7 e8 e9 e10 ⊢
    refine ⟨s9, ?_⟩
    simp [e1, lla, llb, c0, c1, c2, w1, w2, hK, hK', e2, e3, e4, e5, e7, aExtract, e8, e9, e10, t1, t2, t3, t4, t5, t6, t7, pc]
end Go.Proofs.YtinmpngfehamcaaDoor
