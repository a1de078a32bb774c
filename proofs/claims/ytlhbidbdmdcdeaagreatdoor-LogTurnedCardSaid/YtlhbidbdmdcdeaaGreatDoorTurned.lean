/-
  LogTurned: a byte that is turned behind a frame's length ends the reading ahead of that frame. No conditions but those named in each line.
-/
import Derived.Test.YtlhbidbdmdcdeaaGreatDoorAbsE
import Derived.Test.YtlhbidbdmdcdeaaGreatDoorMany
namespace Go.Proofs.YtlhbidbdmdcdeaaGreatDoor
open Go Go.Abs Go.Abs.F
set_option linter.unusedVariables false

theorem sumB_inj : ∀ (r : Bs) (a b : Nat), a < 4294967291 → b < 4294967291 → sumB a r = sumB b r → a = b
  | [], a, b, _, _, h => h
  | c :: r, a, b, ha, hb, h => by
    have := sumB_inj r _ _ (Nat.mod_lt _ (by decide)) (Nat.mod_lt _ (by decide)) h
    omega

theorem sumB_set : ∀ (b : Bs) (n q : Nat) (v : UInt8), n < 4294967291 → (hq : q < b.length) → v ≠ b[q] → sumB n (b.set q v) ≠ sumB n b
  | [], n, q, v, _, hq, _ => by simp at hq
  | c :: r, n, 0, v, hn, _, hv => fun h => by
    have := sumB_inj r _ _ (Nat.mod_lt _ (by decide)) (Nat.mod_lt _ (by decide)) h
    have h1 := v.toNat_lt
    have h2 := c.toNat_lt
    exact hv (UInt8.toNat.inj (by show v.toNat = c.toNat; omega))
  | c :: r, n, q + 1, v, hn, hq, hv => fun h => by
    rw [List.set_cons_succ] at h
    exact sumB_set r _ q v (Nat.mod_lt _ (by decide)) (by simpa using hq) (by simpa using hv) h

theorem four_inj {a b : Nat} (ha : a < 4294967296) (hb : b < 4294967296) (h : four a = four b) : a = b := by
  unfold four at h
  simp only [List.cons.injEq, and_true] at h
  obtain ⟨h0, h1, h2, h3⟩ := h
  have e0 := congrArg UInt8.toNat h0
  have e1 := congrArg UInt8.toNat h1
  have e2 := congrArg UInt8.toNat h2
  have e3 := congrArg UInt8.toNat h3
  simp only [byte_nat] at e0 e1 e2 e3
  omega

theorem turned_none {pre b post : Bs} {i : Nat} {v : UInt8} (h1 : (vput b.length).length ≤ i) (h2 : i < (wrapB b).length) (hv : (wrapB b)[i]? ≠ some v) (hb : b.length < 2 ^ 64) :
    openB (pre ++ ((wrapB b).set i v ++ post)) pre.length = none := by
  cases ho : openB (pre ++ ((wrapB b).set i v ++ post)) pre.length with
  | none => rfl
  | some pe =>
    exfalso
    obtain ⟨p, e⟩ := pe
    obtain ⟨he, hel, post', hp⟩ := openB_back ho
    rw [List.drop_left] at hp
    have hpl : p.length < 2 ^ 64 := by
      have := wrapB_le p
      have h3 := congrArg List.length hp
      simp only [List.length_append, List.length_set] at h3
      unfold openB at ho
      split at ho
      · cases ho
      · rename_i n to hvg
        split at ho
        · cases ho
        · split at ho
          · cases ho
            have := getN_few hvg
            rw [List.length_take]
            have hn := vget_vput (bs := pre ++ ((wrapB b).set i v ++ post)) (pre := pre) (post := ((four (sumB 1 (vput b.length ++ b)) ++ b).set (i - (vput b.length).length) v) ++ post) (at_ := pre.length) (n := b.length) (by
              rw [wrapB, List.append_assoc, List.set_append_right _ _ h1, List.append_assoc]) rfl hb
            rw [hvg] at hn
            cases hn
            omega
          · cases ho
    have hset : (wrapB b).set i v = vput b.length ++ (four (sumB 1 (vput b.length ++ b)) ++ b).set (i - (vput b.length).length) v := by
      rw [wrapB, List.append_assoc, List.set_append_right _ _ h1]
    have v1 := vget_vput (bs := (wrapB b).set i v ++ post) (pre := []) (post := ((four (sumB 1 (vput b.length ++ b)) ++ b).set (i - (vput b.length).length) v) ++ post) (at_ := 0) (n := b.length) (by rw [hset]; simp) rfl hb
    have v2 := vget_vput (bs := (wrapB b).set i v ++ post) (pre := []) (post := four (sumB 1 (vput p.length ++ p)) ++ p ++ post') (at_ := 0) (n := p.length) (by rw [hp, wrapB]; simp) rfl hpl
    rw [v1] at v2
    have hlen : b.length = p.length := (Prod.mk.inj (Option.some.inj v2)).1
    rw [hset, wrapB, ← hlen, List.append_assoc, List.append_assoc, List.append_assoc] at hp
    have hp := List.append_cancel_left hp
    rw [← List.append_assoc (four _) p post'] at hp
    have hf : ∀ n, (four n).length = 4 := fun _ => rfl
    have hp := (List.append_inj hp (by simp [hf, hlen])).1
    have hi : i - (vput b.length).length < (four (sumB 1 (vput b.length ++ b)) ++ b).length := by
      have : (wrapB b).length = (vput b.length).length + 4 + b.length := by simp [wrapB, hf]; omega
      simp [hf]
      omega
    have hget : (four (sumB 1 (vput b.length ++ b)) ++ b)[i - (vput b.length).length]? ≠ some v := by
      rw [wrapB, List.append_assoc, List.getElem?_append_right h1] at hv
      exact hv
    generalize i - (vput b.length).length = i' at *
    by_cases hc : i' < 4
    · have h4 := hp
      rw [List.set_append_left _ _ (by rw [hf]; exact hc)] at h4
      have h5 := (List.append_inj h4 (by simp [hf])).2
      subst h5
      have h6 := congrArg (fun l : Bs => l[i']?) hp
      simp only [List.getElem?_set_self hi] at h6
      exact hget h6.symm
    · have h4 := hp
      rw [List.set_append_right _ _ (by rw [hf]; omega), hf] at h4
      obtain ⟨h5, h6⟩ := List.append_inj h4 (by simp [hf])
      have s1 := sumB_lt (vput b.length ++ b) 1 (by decide)
      have s2 := sumB_lt (vput b.length ++ p) 1 (by decide)
      have h7 := four_inj (by omega) (by omega) h5
      rw [sumB_append, sumB_append, ← h6] at h7
      have hq : i' - 4 < b.length := by simp [hf] at hi; omega
      refine sumB_set b _ (i' - 4) v (sumB_lt _ 1 (by decide)) hq (fun e => hget ?_) h7.symm
      rw [List.getElem?_append_right (by rw [hf]; omega), hf, List.getElem?_eq_getElem hq, e]

theorem frames_at {l : List Ent} {k : Nat} (hk : k < l.length) : framesB l = framesB (l.take k) ++ (wrapB (putB l[k]) ++ framesB (l.drop (k + 1))) := by
  conv => lhs; rw [← List.take_append_drop k l, framesB_append, List.drop_eq_getElem_cons hk, framesB]

theorem turned_law {l : List Ent} (hm : l.all mayE = true) (hw : ∀ e ∈ l, EWf e) (hl : l.length ≤ 2000) {k i : Nat} {v : UInt8} (hk : k < l.length) (h1 : (vput (putB l[k]).length).length ≤ i) (h2 : i < (wrapB (putB l[k])).length)
    (hv : (wrapB (putB l[k]))[i]? ≠ some v) : readP ((framesB l).set ((framesB (l.take k)).length + i) v) = (l.take k, (framesB (l.take k)).length) := by
  have hb : (framesB l).set ((framesB (l.take k)).length + i) v = framesB (l.take k) ++ ((wrapB (putB l[k])).set i v ++ framesB (l.drop (k + 1))) := by
    rw [frames_at hk, List.set_append_right _ _ (by omega), Nat.add_sub_cancel_left, List.set_append_left _ _ h2]
  have hme : mayE l[k] = true := by
    rw [List.all_eq_true] at hm
    exact hm _ (List.getElem_mem hk)
  have hpl := mayE_len hme
  rw [hb, readP_frames (l := l.take k) (post := (wrapB (putB l[k])).set i v ++ framesB (l.drop (k + 1))) (by rw [List.length_take]; omega) (all_take k hm) (fun e he => hw e (List.mem_of_mem_take he)) rfl]
  exact readL_none (turned_none h1 h2 hv (by omega))

theorem vput_short {m : Nat} (h : m ≤ 400) : (m < 128 ∧ vput m = [UInt8.ofNat m]) ∨ (128 ≤ m ∧ vput m = [UInt8.ofNat (m % 128 + 128), UInt8.ofNat (m / 128)]) := by
  by_cases c : 128 ≤ m
  · right
    refine ⟨c, ?_⟩
    unfold vput putN
    rw [if_pos c]
    unfold putN
    rw [if_neg (by omega)]
  · left
    refine ⟨by omega, ?_⟩
    unfold vput putN
    rw [if_neg c]

theorem xor_run (a b : UInt8) : aBin .xor (I .u8 a.toNat) (I .u8 b.toNat) = some (I .u8 ((a ^^^ b).toNat)) := by
  have ha := a.toNat_lt
  have hb := b.toNat_lt
  have h1 : (BitVec.ofInt IntKind.u8.bits (a.toNat : Int)).toNat = a.toNat := bv_nat 8 _ (by simpa using ha)
  have h2 : (BitVec.ofInt IntKind.u8.bits (b.toNat : Int)).toNat = b.toNat := bv_nat 8 _ (by simpa using hb)
  have h3 : (a ^^^ b).toNat < 256 := (a ^^^ b).toNat_lt
  have h4 : IntKind.u8.wrap (((BitVec.ofInt IntKind.u8.bits (a.toNat : Int) ^^^ BitVec.ofInt IntKind.u8.bits (b.toNat : Int)).toNat : Nat) : Int) = (((a ^^^ b).toNat : Nat) : Int) := by
    rw [BitVec.toNat_xor, h1, h2, wrap8, ← UInt8.toNat_xor, Nat.mod_eq_of_lt h3]
  simp only [aBin, aInt, if_true]
  exact congrArg (fun z => some (I .u8 z)) h4

theorem xor_ne {a b : UInt8} (h : b ≠ 0) : a ^^^ b ≠ a := fun e => h (by
  have h1 : a.toNat ^^^ b.toNat = a.toNat := by rw [← UInt8.toNat_xor, e]
  have h2 : a.toNat ^^^ (a.toNat ^^^ b.toNat) = b.toNat := by rw [← Nat.xor_assoc, Nat.xor_self, Nat.zero_xor]
  rw [h1, Nat.xor_self] at h2
  exact UInt8.toNat.inj h2.symm)

section
variable {s t : St} {x y : S} {l m : List Ent} {bs : Bs}

theorem FB_put {s0 : St} (h : FB s0 s x bs) {j : Nat} (hj : j < bs.length) {i : Int} (hi : i = j) (v : UInt8) :
    ∃ p t, aIndexSl 1 (Z x) (I .i64 i) = some p ∧ aLoad1 p s.get = some (I .u8 bs[j].toNat) ∧ aStore 1 p (I .u8 v.toNat) s = some (tt, t) ∧ FB s0 t x (bs.set j v) ∧ s.size ≤ t.size ∧ ∀ b, own x ≠ some b → t.get b = s.get b := by
  obtain ⟨⟨wf, hz, hk⟩, ⟨hlen, how⟩, hnew⟩ := h
  rcases how with ⟨rfl, h0⟩ | ⟨c, rows, rfl, h0, _⟩ | ⟨c, rows, cap, rfl, hc, h1, h2, h3⟩
  · omega
  · omega
  · rw [Nat.mul_one] at h2 h3
    have hr : rows[j]? = some (.int .u8 bs[j].toNat) := by
      have := congrArg (fun l : List S => l[j]?) h3
      simp only [List.getElem?_take_of_lt hj, U_get, List.getElem?_eq_getElem hj, Option.map_some] at this
      exact this
    have hcl := (hnew c rfl).2
    have hcn := (hnew c rfl).1
    refine ⟨_, s.set c (.cells true (setRange rows j [.int .u8 v.toNat])), aIndexSl_int hi hj, aLoad1_of h1 (by simpa using hr), ?_, ⟨⟨St.wf_set wf hcl _, by simpa using hz, fun b hb => by rw [St.get_set_ne _ _ (by omega)]; exact hk b hb⟩, ⟨by simp [U], .inr (.inr ⟨c, setRange rows j [.int .u8 v.toNat], cap, by simp, by simpa using hc, St.get_set_same _ _ _, by simpa using h2, ?_⟩)⟩, fun d hd => by cases hd; exact ⟨hcn, by simpa using hcl⟩⟩, by simp, fun b hb => St.get_set_ne _ _ (fun e => hb (by rw [e]; rfl))⟩
    · have := aStore1_of (σ := s) (i := c) (o := 0 + j * 1) (x := .int .u8 v.toNat) h1 (by omega)
      simpa using this
    · rw [List.length_set, Nat.mul_one]
      show (rows.set j (.int .u8 v.toNat)).take bs.length = _
      rw [List.take_set, h3]
      simp [U, List.map_set]

theorem turned_run (d : Nat) (wf : s.wf) {is : List Int} {which at_ turn : Int} (hx : Rd 1 s x is.length (I64 is)) (hox : ∀ c, own x = some c → c < s.size) (ht : (Lit.int .u8 turn).wf = true) :
    ∃ t, R (d + 12) 6 [Z x, I .i64 which, I .i64 at_, I .u8 turn] s = some (B true, t) := by
  rw [f6_run]
  unfold f6
  have tl5 := fun st => told10_run (d + 10) st
  obtain ⟨hm, hw, hl⟩ := rowsE_may is
  have hfl := rowsE_len is
  obtain ⟨o, s1, e1, f1⟩ := rows_run (d + 10) wf hx hox
  generalize rowsE is = l at *
  obtain ⟨tb, rfl⟩ := byte_of ht
  have lo := (f1.rd : RE s1 o l).lens
  simp only [Nat.add_assoc, Nat.reduceAdd] at e1 tl5
  by_cases h0 : l = [] ∨ tb = 0
  · refine ⟨s1, ?_⟩
    have h0' : decide (((l.length : Nat) : Int) = 0) = true ∨ (decide (((l.length : Nat) : Int) = 0) = false ∧ decide (((tb.toNat : Nat) : Int) = 0) = true) := by
      by_cases h1 : l = []
      · exact .inl (by rw [h1]; rfl)
      · have : 0 < l.length := List.length_pos_iff.2 h1
        exact .inr ⟨decide_eq_false (by omega), by rw [h0.resolve_left h1]; rfl⟩
    clear h0 ht
    generalize ((l.length : Nat) : Int) = L at *
    generalize ((tb.toNat : Nat) : Int) = TB at *
    generalize R (d + 11) = r at *
    simp only [e1, bd2_some, bd_some, lo, eql_int]
    rcases h0' with h1 | ⟨h1, h2⟩
    · rw [h1]
      simp [tl5, gtt]
    · rw [h1]
      simp [tl5, h2]
  · have h1 : l ≠ [] := fun e => h0 (.inl e)
    have h2 : tb ≠ 0 := fun e => h0 (.inr e)
    have hpos : 0 < l.length := List.length_pos_iff.2 h1
    have ne1 : ¬ ((l.length : Nat) : Int) = 0 := by omega
    have ne2 : ¬ ((tb.toNat : Nat) : Int) = 0 := fun e => h2 (UInt8.toNat.inj (by show tb.toNat = 0; omega))
    clear h0
    obtain ⟨k, hk, _, c1, c2, r1, c3⟩ := mod_run which hpos (by omega)
    have oo : ∀ c, own o = some c → c < s1.size := fun c hc => (f1.new c hc).2
    obtain ⟨y, p1, ry, oy⟩ := RE_upto (f1.rd : RE s1 o l) (k := k) (by omega)
    obtain ⟨a, s3, e3, f3⟩ := all_run d f1.gr.wf ry (own_lt oy oo) (fun e he => hw e (List.mem_of_mem_take he)) (by rw [List.length_take]; omega)
    rw [allP_may (all_take k hm) (by rw [List.length_take]; omega)] at e3 f3
    have ro3 : RE s3 o l := Rd.gr f1.rd oo f3.gr
    have oo3 : ∀ c, own o = some c → c < s3.size := fun c hc => Nat.lt_of_lt_of_le (oo c hc) f3.gr.2.1
    obtain ⟨w, ix, ld⟩ := RE.atE ro3 (n := ((k : Nat) : Int)) rfl (List.getElem?_eq_getElem hk)
    have hme : mayE l[k] = true := by
      rw [List.all_eq_true] at hm
      exact hm _ (List.getElem_mem hk)
    obtain ⟨f, s4, e4, g4, F4⟩ := frame_run (d + 1) f3.gr.wf l[k] (hw _ (List.getElem_mem hk))
    have hf : frameE l[k] = some (wrapB (putB l[k])) := by simp [frameE, hme]
    rw [hf] at e4
    have F4 := F4 _ hf
    have oo4 : ∀ c, own o = some c → c < s4.size := fun c hc => Nat.lt_of_lt_of_le (oo3 c hc) g4.2.1
    obtain ⟨c, s5, e5, f5⟩ := all_run d F4.gr.wf (ro3.gr oo3 g4) oo4 hw (by omega)
    rw [allP_may hm (by omega)] at e5 f5
    simp only [resA, resF] at e3 e4 e5
    have f5 : FB s4 s5 c (framesB l) := f5
    have lc := f5.rd.lens
    have la := RB.lenB (bs := framesB (l.take k)) f3.rd
    have rf5 : RB s5 f (wrapB (putB l[k])) := Rd.gr F4.rd (fun c hc => (F4.new c hc).2) f5.gr
    have lf := rf5.lenB
    have hcut := congrArg List.length (frames_at hk)
    rw [List.length_append, List.length_append] at hcut
    have hpl := mayE_len hme
    have hwl : (wrapB (putB l[k])).length = (vput (putB l[k]).length).length + 4 + (putB l[k]).length := by simp [wrapB, four]; omega
    have hp1 : 1 ≤ (putB l[k]).length := by simp [putB]
    -- the length's bytes
    obtain ⟨c0, nn, hc0, hnn, hcc⟩ : ∃ (c0 : UInt8) (nn : Nat), (wrapB (putB l[k]))[0]? = some c0 ∧ nn = (vput (putB l[k]).length).length ∧ ((128 ≤ c0.toNat ∧ nn = 2) ∨ (¬ 128 ≤ c0.toNat ∧ nn = 1)) := by
      rcases vput_short hpl with ⟨hs, hv⟩ | ⟨hs, hv⟩
      · refine ⟨UInt8.ofNat (putB l[k]).length, 1, by rw [wrapB, hv]; rfl, by rw [hv]; rfl, .inr ⟨?_, rfl⟩⟩
        rw [byte_nat]; omega
      · refine ⟨UInt8.ofNat ((putB l[k]).length % 128 + 128), 2, by rw [wrapB, hv]; rfl, by rw [hv]; rfl, .inl ⟨?_, rfl⟩⟩
        rw [byte_nat]; omega
    have hn12 : nn = 1 ∨ nn = 2 := by rcases hcc with ⟨_, h⟩ | ⟨_, h⟩ <;> omega
    obtain ⟨w0, ix0, ld0⟩ := rf5.atB (n := 0) (j := 0) rfl hc0
    have n6 : ¬ (((wrapB (putB l[k])).length : Nat) : Int) < 6 := by omega
    obtain ⟨i, hi, _, d1, d2, r2, d3⟩ := mod_run at_ (n := (wrapB (putB l[k])).length - nn) (by omega) (by omega)
    have wn : IntKind.i64.wrap ((((wrapB (putB l[k])).length : Nat) : Int) - ((nn : Nat) : Int)) = (((wrapB (putB l[k])).length - nn : Nat) : Int) := by rw [wrap_in _ (by omega) (by omega)]; omega
    have wa : IntKind.i64.wrap ((((framesB (l.take k)).length : Nat) : Int) + ((nn : Nat) : Int)) = (((framesB (l.take k)).length + nn : Nat) : Int) := by rw [wrap_in _ (by omega) (by omega)]; omega
    have wj : IntKind.i64.wrap ((((framesB (l.take k)).length + nn : Nat) : Int) + ((i : Nat) : Int)) = (((framesB (l.take k)).length + (nn + i) : Nat) : Int) := by rw [wrap_in _ (by omega) (by omega)]; omega
    have hj : (framesB (l.take k)).length + (nn + i) < (framesB l).length := by omega
    have gj : ¬ (((framesB l).length : Nat) : Int) ≤ (((framesB (l.take k)).length + (nn + i) : Nat) : Int) := by omega
    have hbyte : (framesB l)[(framesB (l.take k)).length + (nn + i)]? = (wrapB (putB l[k]))[nn + i]? := by
      rw [frames_at hk, List.getElem?_append_right (by omega), Nat.add_sub_cancel_left, List.getElem?_append_left (by omega)]
    have hlt : nn + i < (wrapB (putB l[k])).length := by omega
    obtain ⟨v, hv⟩ : ∃ v, v = (framesB l)[(framesB (l.take k)).length + (nn + i)] ^^^ tb := ⟨_, rfl⟩
    obtain ⟨q, s6, iq, lq, sq, F6, hz6, hk6⟩ := FB_put f5 hj (i := (((framesB (l.take k)).length + (nn + i) : Nat) : Int)) rfl v
    have xr := xor_run (framesB l)[(framesB (l.take k)).length + (nn + i)] tb
    rw [← hv] at xr
    have hne : (wrapB (putB l[k]))[nn + i]? ≠ some v := by
      rw [← hbyte, List.getElem?_eq_getElem hj, hv]
      exact fun e => xor_ne h2 (Option.some.inj e).symm
    have law := turned_law hm hw (by omega) hk (i := nn + i) (v := v) (by omega) hlt hne
    obtain ⟨m, s7, e7, f7⟩ := read_run' d F6.gr.wf F6.rd (fun c hc => (F6.new c hc).2) (by rw [List.length_set]; omega)
    rw [law] at e7 f7
    simp only [resR] at e7
    have lm := (f7.rd : RE s7 m (l.take k)).lens
    have lk : (l.take k).length = k := by rw [List.length_take]; omega
    rw [lk] at lm
    have g47 : Gr s4 s7 := F6.gr.trans f7.gr
    have ro7 : RE s7 o l := (ro3.gr oo3 g4).gr oo4 g47
    obtain ⟨s8, e8, g8⟩ := front_run (d + 8) f7.gr.wf (f7.rd : RE s7 m (l.take k)) (fun c hc => (f7.new c hc).2) ro7 (fun c hc => Nat.lt_of_lt_of_le (oo4 c hc) g47.2.1) (by show (l.take k).length ≤ 8000; omega)
    rw [meetP_take, decide_eq_true rfl] at e8
    simp only [Nat.add_assoc, Nat.reduceAdd] at e3 e4 e5 e7 e8
    refine ⟨s8, ?_⟩
    have d128 : decide ((128 : Int) ≤ ((c0.toNat : Nat) : Int)) = decide (nn = 2) := by
      rcases hcc with ⟨h, h'⟩ | ⟨h, h'⟩
      · rw [decide_eq_true h', decide_eq_true (by omega)]
      · rw [decide_eq_false (by omega), decide_eq_false (by omega)]
    generalize (framesB l)[(framesB (l.take k)).length + (nn + i)] = fb at *
    generalize (((framesB (l.take k)).length + (nn + i) : Nat) : Int) = JJ at *
    generalize (((framesB (l.take k)).length + nn : Nat) : Int) = AN at *
    generalize (((wrapB (putB l[k])).length - nn : Nat) : Int) = WN at *
    generalize (((wrapB (putB l[k])).length : Nat) : Int) = WL at *
    generalize (((framesB (l.take k)).length : Nat) : Int) = AL at *
    generalize (((framesB l).length : Nat) : Int) = CL at *
    generalize ((l.length : Nat) : Int) = L at *
    generalize ((k : Nat) : Int) = KK at *
    generalize ((i : Nat) : Int) = II at *
    generalize ((v.toNat : Nat) : Int) = VV at *
    generalize ((tb.toNat : Nat) : Int) = TB at *
    generalize ((fb.toNat : Nat) : Int) = FBB at *
    generalize ((c0.toNat : Nat) : Int) = C0 at *
    generalize ((rowK which : Nat) : Int) = RK at *
    generalize ((rowK at_ : Nat) : Int) = RA at *
    generalize R (d + 11) = r at *
    clear hj hlt hbyte law hne hi hcut hwl hpl hp1 hfl hcc hc0 hnn
    rcases hn12 with rfl | rfl
    · have dd : decide ((128 : Int) ≤ C0) = false := d128
      simp at wa wn
      simp [e1, lo, ne1, ne2, c1, c2, r1, c3, p1, e3, aExtract, ix, ld, e4, e5, lf, n6, ix0, ld0, dd, la, wa, d1, wn, d2, r2, d3, wj, lc, gj, iq, lq, xr, sq, e7, tl5, lm, e8]
    · have dd : decide ((128 : Int) ≤ C0) = true := d128
      simp at wa wn
      simp [e1, lo, ne1, ne2, c1, c2, r1, c3, p1, e3, aExtract, ix, ld, e4, e5, lf, n6, ix0, ld0, dd, la, wa, d1, wn, d2, r2, d3, wj, lc, gj, iq, lq, xr, sq, e7, tl5, lm, e8]
end
end Go.Proofs.YtlhbidbdmdcdeaaGreatDoor
