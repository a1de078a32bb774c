/-
  What policy.Parse computes, in any store. No conditions but those named in each line.
-/
import Derived.Test.YtlhbidbdmdcdeaaGreatDoorPol
namespace Go.Proofs.YtlhbidbdmdcdeaaGreatDoor
open Go Go.Abs Go.Abs.F
set_option linter.unusedVariables false

def wordsOf (x : Bs) : List Bs := (splitB 32 (x.takeWhile fun b => !Nat.beq b.toNat (35 : UInt8).toNat)).filter fun w => !decide (w = [])

/-- A policy, a code, the line. -/
def parseGo : Pol → List Bs → Nat → List Bs → Pol × Int × Int
  | p, _, _, [] => if mayP p then (p, 0, 0) else (pol0, 5, 0)
  | p, seen, k, x :: r => if wordsOf x = [] then parseGo p seen (k + 1) r else
    match lineP p (wordsOf x) with
    | none => (pol0, 4, k + 1)
    | some p' => if joinB [32] (wordsOf x).dropLast ∈ seen then (pol0, 4, k + 1) else parseGo p' (seen ++ [joinB [32] (wordsOf x).dropLast]) (k + 1) r
def parseP (l : Bs) : Pol × Int × Int := parseGo polD [] 0 (splitB 10 l)

section
variable {s t : St} {x y : S} {l : Bs} {i : Nat}

theorem wordsOf_len (x : Bs) : (wordsOf x).length ≤ x.length + 1 := by
  unfold wordsOf
  refine Nat.le_trans (List.length_filter_le _ _) ?_
  rw [splitB_len]
  have h1 := cntB_le 32 (x.takeWhile fun b => !Nat.beq b.toNat (35 : UInt8).toNat)
  have h2 := (List.takeWhile_sublist (p := fun b : UInt8 => !Nat.beq b.toNat (35 : UInt8).toNat) (l := x)).length_le
  omega

theorem total_sublist : ∀ {a b : List Bs}, a.Sublist b → totalLen a ≤ totalLen b := by
  intro a b h
  induction h with
  | slnil => exact Nat.le_refl _
  | cons x _ ih => simp only [totalLen]; omega
  | cons_cons x _ ih => simp only [totalLen]; omega

theorem wordsOf_total (x : Bs) : totalLen (wordsOf x).dropLast ≤ x.length := by
  have h1 := total_sublist (List.dropLast_sublist (wordsOf x))
  have h2 := total_sublist (List.filter_sublist (l := splitB 32 (x.takeWhile fun b => !Nat.beq b.toNat (35 : UInt8).toNat)) (p := fun w => !decide (w = [])))
  have h3 : totalLen (splitB 32 (x.takeWhile fun b => !Nat.beq b.toNat (35 : UInt8).toNat)) ≤ (x.takeWhile fun b => !Nat.beq b.toNat (35 : UInt8).toNat).length := by rw [totalLen_sum]; exact splitB_sum _ _
  have h4 := (List.takeWhile_sublist (p := fun b : UInt8 => !Nat.beq b.toNat (35 : UInt8).toNat) (l := x)).length_le
  unfold wordsOf at h1 ⊢
  exact Nat.le_trans h1 (Nat.le_trans h2 (Nat.le_trans h3 h4))

/-- The words of a line are gathered. -/
theorem words_loop (r : CallF) (v0 v1 v2 v3 v5 v6 v7 : T) {ps : List Bs} (hx : RT s x ps) (hox : ∀ c, own x = some c → c < s.size) (wf : s.wf) (hl : ps.length ≤ 8001) :
    ∃ (y : S) (τ : St), loops (f51_l2 r 8192) 8192 [v0, v1, v2, v3, Z .nils, v5, v6, v7, Z x, I .i64 ps.length, I .i64 0] s = some (.exit 2 [v0, v1, v2, v3, Z y, v5, v6, v7], τ) ∧ FT s τ y (ps.filter fun w => !decide (w = [])) := by
  obtain ⟨j, τ, lp, y, rfl, hf⟩ := loops_inv (f := f51_l2 r 8192) (fun q v u => ∃ (k : Nat) (y : S), q + k = ps.length ∧ v = [v0, v1, v2, v3, Z y, v5, v6, v7, Z x, I .i64 ps.length, I .i64 k] ∧ FT s u y ((ps.take k).filter fun w => !decide (w = [])))
    (fun j u => ∃ y, j = .exit 2 [v0, v1, v2, v3, Z y, v5, v6, v7] ∧ FT s u y (ps.filter fun w => !decide (w = []))) (by
    rintro q v u ⟨k, y, hk, rfl, hf⟩
    by_cases hkl : k < ps.length
    · left
      have hc : ps[k]? = some ps[k] := List.getElem?_eq_getElem hkl
      have hx' : RT u x ps := hx.gr hox hf.gr
      obtain ⟨p, ix, ld⟩ := RT.atT hx' (n := (k : Int)) rfl hc
      have c0 : (k : Int) < (ps.length : Int) := by omega
      have w1 : IntKind.i64.wrap ((k : Int) + 1) = ((k + 1 : Nat) : Int) := by rw [wrap_in _ (by omega) (by omega)]; omega
      have htk : ps.take (k + 1) = ps.take k ++ [ps[k]] := by rw [List.take_add_one, hc]; rfl
      by_cases he : ps[k] = []
      · refine ⟨[v0, v1, v2, v3, Z y, v5, v6, v7, Z x, I .i64 ps.length, I .i64 ((k + 1 : Nat) : Int)], u, q - 1, ?_, by omega, k + 1, y, by omega, rfl, ?_⟩
        · unfold f51_l2
          rw [he] at ld
          generalize ((k + 1 : Nat) : Int) = K1 at w1 ⊢
          generalize (k : Int) = K at *
          simp [c0, ix, ld, w1]
        · rw [htk, List.filter_append, he]
          simpa using hf
      · have hlen : ((ps.take k).filter fun w => !decide (w = [])).length ≤ 1000000 := by
          refine Nat.le_trans (List.length_filter_le _ _) ?_
          rw [List.length_take]
          omega
        obtain ⟨y', t, ⟨s', nw, ap⟩, hf', _⟩ := FT.lit (c := ps[k]) hf hlen
        refine ⟨[v0, v1, v2, v3, Z y', v5, v6, v7, Z x, I .i64 ps.length, I .i64 ((k + 1 : Nat) : Int)], t, q - 1, ?_, by omega, k + 1, y', by omega, rfl, ?_⟩
        · unfold f51_l2
          generalize ((k + 1 : Nat) : Int) = K1 at w1 ⊢
          generalize (k : Int) = K at *
          simp [c0, ix, ld, he, nw, ap, w1]
        · rw [htk, List.filter_append]
          simpa [he] using hf'
    · right
      have hk' : k = ps.length := by omega
      subst hk'
      refine ⟨.exit 2 [v0, v1, v2, v3, Z y, v5, v6, v7], u, ?_, (fun v hv => by cases hv), y, rfl, by rwa [List.take_length] at hf⟩
      unfold f51_l2
      simp) 8192 ps.length [v0, v1, v2, v3, Z .nils, v5, v6, v7, Z x, I .i64 ps.length, I .i64 0] s ⟨0, .nils, by omega, rfl, by simpa [FT, strS] using Fr.nil 1 wf⟩ (by omega)
  exact ⟨y, τ, lp, hf⟩

theorem parse_run (d : Nat) (wf : s.wf) (hl : l.length ≤ 8000) : ∃ t, R (d + 7) 51 [Z (.str l)] s = some (.tup [.agg (cP (parseP l).1), .s (.int .i64 (parseP l).2.1), .s (.int .i64 (parseP l).2.2)], t) ∧ Gr s t := by
  rw [f51_run]
  unfold f51
  -- the result's block, the policy's block, the lines
  obtain ⟨s1, hs1⟩ : ∃ s1, s1 = s.push (.cells true (cP pol0)) := ⟨_, rfl⟩
  have g1 : Gr s s1 := by rw [hs1]; exact Gr.push wf _
  have z1 : s1.size = s.size + 1 := by rw [hs1]; rfl
  have hr1 : s1.get s.size = some (.cells true (cP pol0)) := by rw [hs1]; exact St.get_push_same _ _
  have nw1 : aNew s (nCells [.int .i64 0, .int .i64 0, .int .i64 0, .int .i64 0, .int .i64 0, .int .i64 0]) = some (Z (.ptr s.size 0), s1) := by rw [hs1]; rfl
  obtain ⟨s2, e2, g2⟩ := default_run (d + 5) g1.wf
  obtain ⟨s3, hs3⟩ : ∃ s3, s3 = s2.push (.cells true (cP pol0)) := ⟨_, rfl⟩
  have g3 : Gr s2 s3 := by rw [hs3]; exact Gr.push g2.wf _
  have nw3 : aNew s2 (nCells [.int .i64 0, .int .i64 0, .int .i64 0, .int .i64 0, .int .i64 0, .int .i64 0]) = some (Z (.ptr s2.size 0), s3) := by rw [hs3]; rfl
  have hp3 : s3.get s2.size = some (.cells true (cP pol0)) := by rw [hs3]; exact St.get_push_same _ _
  have z3 : s3.size = s2.size + 1 := by rw [hs3]; rfl
  obtain ⟨s4, hs4⟩ : ∃ s4, s4 = s3.set s2.size (.cells true (cP polD)) := ⟨_, rfl⟩
  have st4 := store6 (p := polD) hp3 rfl
  rw [← hs4] at st4
  have f4 : s4.wf := by rw [hs4]; exact St.wf_set g3.wf (by omega) _
  have z4 : s4.size = s2.size + 1 := by rw [hs4]; simpa using z3
  have hp4 : s4.get s2.size = some (.cells true (cP polD)) := by rw [hs4]; exact St.get_set_same _ _ _
  have old4 : ∀ b, b < s2.size → s4.get b = s2.get b := fun b hb => by rw [hs4, St.get_set_ne _ _ (by omega), g3.2.2 b hb]
  have hle2 : s.size + 1 ≤ s2.size := by have := g2.2.1; omega
  have hr4 : s4.get s.size = some (.cells true (cP pol0)) := by rw [old4 _ (by omega), g2.2.2 _ (by omega)]; exact hr1
  have olds4 : ∀ b, b < s.size → s4.get b = s.get b := fun b hb => by rw [old4 b (by omega), g2.2.2 b (by omega), g1.2.2 b hb]
  obtain ⟨x, s5, e5, f5⟩ := split_run (l := l) (c := 10) (d + 3) f4 hl
  obtain ⟨ps, hps⟩ : ∃ ps, ps = splitB 10 l := ⟨_, rfl⟩
  rw [← hps] at f5
  have hcount : ps.length ≤ 8001 := by rw [hps, splitB_len]; have := cntB_le 10 l; omega
  have hmem : ∀ w ∈ ps, w.length ≤ 8000 := fun w hw => by have := splitB_mem 10 l w (by rw [← hps]; exact hw); omega
  have hresult : parseP l = parseGo polD [] 0 ps := by rw [hps]; rfl
  rw [hresult]
  obtain ⟨rp, hrp⟩ : ∃ rp, rp = s.size := ⟨_, rfl⟩
  obtain ⟨pp, hpp⟩ : ∃ pp, pp = s2.size := ⟨_, rfl⟩
  rw [← hrp] at nw1 hr4
  rw [← hpp] at nw3 st4 hp4
  obtain ⟨j, τ, lp, hj⟩ := loops_inv (f := f51_l1 (R (d + 6)) 8192)
    (fun q v u => ∃ (k : Nat) (p : Pol) (y : S) (seen : List Bs), q + k = ps.length ∧ v = [Z (.ptr rp 0), Z (.ptr pp 0), Z y, Z x, I .i64 ps.length, I .i64 k] ∧ u.wf ∧ s5.size ≤ u.size ∧ u.get rp = some (.cells true (cP pol0)) ∧ u.get pp = some (.cells true (cP p)) ∧
      (∀ b, b < s5.size → b ≠ pp → u.get b = s5.get b) ∧ Ow 1 u y seen.length (strS seen) ∧ (∀ c, own y = some c → s5.size ≤ c ∧ c < u.size) ∧ seen.length ≤ k ∧ parseGo p seen k (ps.drop k) = parseGo polD [] 0 ps)
    (fun j u => u.wf ∧ s5.size ≤ u.size ∧ (∀ b, b < s5.size → b ≠ pp → b ≠ rp → u.get b = s5.get b) ∧
      ((∃ p, j = .exit 0 [Z (.ptr rp 0), Z (.ptr pp 0)] ∧ u.get rp = some (.cells true (cP pol0)) ∧ u.get pp = some (.cells true (cP p)) ∧ parseGo polD [] 0 ps = if mayP p then (p, 0, 0) else (pol0, 5, 0)) ∨
       ∃ k : Nat, j = .ret (.tup [.agg (cP pol0), .s (.int .i64 4), .s (.int .i64 ((k + 1 : Nat) : Int))]) ∧ parseGo polD [] 0 ps = (pol0, 4, (k : Int) + 1))) (by
    rintro q v u ⟨k, p, y, seen, hk, rfl, wfu, hzu, hru, hpu, hou, hy, hyo, hsl, hgo⟩
    have hne : rp ≠ pp := by omega
    have hrp5 : rp < s5.size := by have := f5.gr.2.1; omega
    have hpp5 : pp < s5.size := by have := f5.gr.2.1; omega
    by_cases hkl : k < ps.length
    · have hc : ps[k]? = some ps[k] := List.getElem?_eq_getElem hkl
      have hdr : ps.drop k = ps[k] :: ps.drop (k + 1) := List.drop_eq_getElem_cons hkl
      obtain ⟨w, hw⟩ : ∃ w, w = ps[k] := ⟨_, rfl⟩
      rw [← hw] at hc hdr
      rw [hdr] at hgo
      have hwl : w.length ≤ 8000 := hmem w (List.mem_of_getElem? hc)
      have hx' : RT u x ps := f5.rd.keep fun c hc' => hou c (f5.new c hc').2 (by have := (f5.new c hc').1; omega)
      obtain ⟨pi, ix, ld⟩ := RT.atT hx' (n := (k : Int)) rfl hc
      have c0 : (k : Int) < (ps.length : Int) := by omega
      have w1 : IntKind.i64.wrap ((k : Int) + 1) = ((k + 1 : Nat) : Int) := by rw [wrap_in _ (by omega) (by omega)]; omega
      have ec := cut_run (s := u) (l := w) (c := 35) (d + 3) (by omega)
      obtain ⟨cw, hcw⟩ : ∃ cw, cw = w.takeWhile fun b => !Nat.beq b.toNat (35 : UInt8).toNat := ⟨_, rfl⟩
      rw [← hcw] at ec
      have hcl : cw.length ≤ w.length := by rw [hcw]; exact (List.takeWhile_sublist _).length_le
      obtain ⟨x2, u2, es, fs⟩ := split_run (l := cw) (c := 32) (d + 3) wfu (by omega)
      have hl2 : (splitB 32 cw).length ≤ 8001 := by rw [splitB_len]; have := cntB_le 32 cw; omega
      have hl2' := fs.rd.lens
      obtain ⟨y3, u3, lp2, f3⟩ := words_loop (R (d + 6)) (Z (.ptr rp 0)) (Z (.ptr pp 0)) (Z y) (I .i64 k) (Z x) (I .i64 ps.length) (I .i64 k) fs.rd (fun c hc' => (fs.new c hc').2) fs.gr.wf hl2
      have hws : ((splitB 32 cw).filter fun w => !decide (w = [])) = wordsOf w := by rw [hcw]; rfl
      rw [hws] at f3
      have g23 : Gr u u3 := fs.gr.trans f3.gr
      have hru3 : u3.get rp = some (.cells true (cP pol0)) := by rw [g23.2.2 rp (by omega)]; exact hru
      have hpu3 : u3.get pp = some (.cells true (cP p)) := by rw [g23.2.2 pp (by omega)]; exact hpu
      have hou3 : ∀ b, b < s5.size → b ≠ pp → u3.get b = s5.get b := fun b hb hb2 => by rw [g23.2.2 b (by omega)]; exact hou b hb hb2
      have hy3 : Ow 1 u3 y seen.length (strS seen) := hy.gr wfu g23
      have hyo3 : ∀ c, own y = some c → s5.size ≤ c ∧ c < u3.size := fun c hc' => ⟨(hyo c hc').1, Nat.lt_of_lt_of_le (hyo c hc').2 g23.2.1⟩
      have hz3 : s5.size ≤ u3.size := Nat.le_trans hzu g23.2.1
      have hl3 := f3.rd.lens
      simp only [Nat.add_assoc, Nat.reduceAdd] at ec es lp2
      by_cases hnil : wordsOf w = []
      · left
        rw [hnil] at hl3
        refine ⟨[Z (.ptr rp 0), Z (.ptr pp 0), Z y, Z x, I .i64 ps.length, I .i64 ((k + 1 : Nat) : Int)], u3, q - 1, ?_, by omega, k + 1, p, y, seen, by omega, rfl, g23.wf, hz3, hru3, hpu3, hou3, hy3, hyo3, by omega, ?_⟩
        · unfold f51_l1
          generalize R (d + 6) = r at *
          generalize ((k + 1 : Nat) : Int) = K1 at w1 ⊢
          generalize (k : Int) = K at *
          generalize ((splitB 32 cw).length : Int) = SL at *
          simp [c0, ix, ld, ec, aExtract, es, hl2', lp2, hl3, w1]
        · rw [← hgo]
          show _ = (if wordsOf w = [] then _ else _)
          rw [if_pos hnil]
      · -- a line that says something
        obtain ⟨n, hn⟩ : ∃ n, (wordsOf w).length = n + 1 := by
          cases hq : wordsOf w with
          | nil => exact absurd hq hnil
          | cons a b => exact ⟨b.length, rfl⟩
        have hwn : (wordsOf w).length ≤ 8001 := Nat.le_trans (wordsOf_len w) (by omega)
        rw [hn] at hl3
        have cl : ¬ (((n + 1 : Nat) : Int) = 0) := by omega
        have wl : IntKind.i64.wrap (((n + 1 : Nat) : Int) - 1) = ((n : Nat) : Int) := by rw [wrap_in _ (by omega) (by omega)]; omega
        obtain ⟨y4, pc, rd4, own4⟩ := f3.rd.upto (hi := n) (by omega)
        have htk : (strS (wordsOf w)).take (n * 1) = strS (wordsOf w).dropLast := by rw [Nat.mul_one, strS_take, List.dropLast_eq_take, hn, Nat.add_sub_cancel]
        have hdl : (wordsOf w).dropLast.length = n := by rw [List.length_dropLast, hn, Nat.add_sub_cancel]
        rw [htk] at rd4
        have rd4' : RT u3 y4 (wordsOf w).dropLast := by unfold RT; rw [hdl]; exact rd4
        have ej : R (d + 6) 79 [Z y4, Z (.str [32])] u3 = some (Z (.str (joinB [32] (wordsOf w).dropLast)), u3) := runQ_prim (prim_join rd4' (by have := wordsOf_total w; simp; omega) (by omega))
        obtain ⟨said, hsaid⟩ : ∃ said, said = joinB [32] (wordsOf w).dropLast := ⟨_, rfl⟩
        rw [← hsaid] at ej
        have hrdw : RT u3 y3 (wordsOf w) := f3.rd
        obtain ⟨u4, e4, b4, hp4'⟩ := line_run (i := pp) d g23.wf (ws := wordsOf w) hpu3 hrdw (fun c hc' => ⟨(f3.new c hc').2, by have := (f3.new c hc').1; have := fs.gr.2.1; omega⟩) hnil (by omega)
        have hz4 : s5.size ≤ u4.size := Nat.le_trans hz3 b4.2.1
        have hru4 : u4.get rp = some (.cells true (cP pol0)) := by rw [b4.2.2 rp (by omega) hne]; exact hru3
        have hou4 : ∀ b, b < s5.size → b ≠ pp → u4.get b = s5.get b := fun b hb hb2 => by rw [b4.2.2 b (by omega) hb2]; exact hou3 b hb hb2
        have hy4 : Ow 1 u4 y seen.length (strS seen) := hy3.keep fun c hc' => b4.2.2 c (hyo3 c hc').2 (by have := (hyo3 c hc').1; omega)
        have hyo4 : ∀ c, own y = some c → s5.size ≤ c ∧ c < u4.size := fun c hc' => ⟨(hyo3 c hc').1, Nat.lt_of_lt_of_le (hyo3 c hc').2 b4.2.1⟩
        have econ := containsT_run (s := u4) (x := y) (ws := seen) (v := said) (d + 4) hy4.rd (by omega)
        have hgo2 : (match lineP p (wordsOf w) with
          | none => (pol0, 4, (k : Int) + 1)
          | some p' => if said ∈ seen then (pol0, 4, (k : Int) + 1) else parseGo p' (seen ++ [said]) (k + 1) (ps.drop (k + 1))) = parseGo polD [] 0 ps := by
          rw [← hgo]
          show _ = (if wordsOf w = [] then _ else _)
          rw [if_neg hnil, hsaid]
        -- the two ways to fail
        have store_r : ∀ u' : St, u'.get rp = some (.cells true (cP pol0)) → aStore 6 (Z (.ptr rp 0)) (AP pol0) u' = some (tt, u'.set rp (.cells true (cP pol0))) := fun u' h => store6 h rfl
        have load_r : ∀ u' : St, aLoadN 6 (Z (.ptr rp 0)) (u'.set rp (.cells true (cP pol0))).get = some (AP pol0) := fun u' => load6 (St.get_set_same _ _ _)
        simp only [Nat.add_assoc, Nat.reduceAdd] at e4 econ
        cases hlp : lineP p (wordsOf w) with
        | none =>
          right
          rw [hlp] at e4 hgo2
          simp only [Option.isSome_none] at e4
          refine ⟨.ret (.tup [.agg (cP pol0), .s (.int .i64 4), .s (.int .i64 ((k + 1 : Nat) : Int))]), u4.set rp (.cells true (cP pol0)), ?_, (fun v hv => by cases hv), St.wf_set b4.1 (by omega) _, by simpa using hz4, fun b hb h1 h2 => by rw [St.get_set_ne _ _ h2]; exact hou4 b hb h1, .inr ⟨k, rfl, hgo2.symm⟩⟩
          unfold f51_l1
          have sr := store_r u4 hru4
          have lr := load_r u4
          generalize u4.set rp (.cells true (cP pol0)) = u5 at *
          generalize R (d + 6) = r at *
          generalize ((k + 1 : Nat) : Int) = K1 at w1 ⊢
          generalize (k : Int) = K at *
          generalize ((splitB 32 cw).length : Int) = SL at *
          generalize ((n + 1 : Nat) : Int) = N1 at *
          generalize ((n : Nat) : Int) = N0 at *
          simp [c0, ix, ld, ec, aExtract, es, hl2', lp2, hl3, cl, wl, pc, ej, e4, gtt, agg6, sr, lr, w1, rC, rT, retT, allV]
        | some p' =>
          rw [hlp] at e4 hgo2 hp4'
          simp only [Option.isSome_some] at e4
          by_cases hin : said ∈ seen
          · right
            simp only [if_pos hin] at hgo2
            rw [decide_eq_true hin] at econ
            refine ⟨.ret (.tup [.agg (cP pol0), .s (.int .i64 4), .s (.int .i64 ((k + 1 : Nat) : Int))]), u4.set rp (.cells true (cP pol0)), ?_, (fun v hv => by cases hv), St.wf_set b4.1 (by omega) _, by simpa using hz4, fun b hb h1 h2 => by rw [St.get_set_ne _ _ h2]; exact hou4 b hb h1, .inr ⟨k, rfl, hgo2.symm⟩⟩
            unfold f51_l1
            have sr := store_r u4 hru4
            have lr := load_r u4
            generalize u4.set rp (.cells true (cP pol0)) = u5 at *
            generalize R (d + 6) = r at *
            generalize ((k + 1 : Nat) : Int) = K1 at w1 ⊢
            generalize (k : Int) = K at *
            generalize ((splitB 32 cw).length : Int) = SL at *
            generalize ((n + 1 : Nat) : Int) = N1 at *
            generalize ((n : Nat) : Int) = N0 at *
            simp [c0, ix, ld, ec, aExtract, es, hl2', lp2, hl3, cl, wl, pc, ej, e4, econ, agg6, sr, lr, w1, rC, rT, retT, allV]
          · left
            simp only [if_neg hin] at hgo2
            rw [decide_eq_false hin] at econ
            have hfr : Fr 1 u4 u4 y seen.length (strS seen) → True := fun _ => trivial
            have L := Fr.lit 1 b4.1 (n := 1) (vs := strS [said]) (by simp)
            obtain ⟨y5, u5, ap, wf5, z5, ow5, old5, new5⟩ := (hy4.gr b4.1 L.gr).append (by_ := 16) L.gr.wf (by omega) L.rd.src (by simp) (by omega)
            have nw : aNew u4 (nSlice 1 (aFill [.str []] [(0, 1, Z (.str said))])) = some (Z (.sl u4.size 0 1 (.known 1)), u4.push (.cells true (strS [said]))) := by simp [aNew, nSlice, aFill, V.cells, setRange, strS]
            have zl : u4.size < (u4.push (.cells true (strS [said]))).size := by simp
            have keep5 : ∀ b, b < s5.size → u5.get b = u4.get b := fun b hb => by
              rw [old5 b (by omega) (fun e => by have := (hyo4 b e).1; omega), L.gr.2.2 b (by omega)]
            refine ⟨[Z (.ptr rp 0), Z (.ptr pp 0), Z y5, Z x, I .i64 ps.length, I .i64 ((k + 1 : Nat) : Int)], u5, q - 1, ?_, by omega, k + 1, p', y5, seen ++ [said], by omega, rfl, wf5, by omega, by rw [keep5 rp hrp5]; exact hru4, by rw [keep5 pp hpp5]; exact hp4',
              fun b hb h1 => by rw [keep5 b hb]; exact hou4 b hb h1, by rw [strS_append, List.length_append]; exact ow5, fun c hc' => ?_, by simp; omega, by rw [hgo2]⟩
            · unfold f51_l1
              generalize u4.push (.cells true (strS [said])) = u6 at *
              generalize R (d + 6) = r at *
              generalize ((k + 1 : Nat) : Int) = K1 at w1 ⊢
              generalize (k : Int) = K at *
              generalize ((splitB 32 cw).length : Int) = SL at *
              generalize ((n + 1 : Nat) : Int) = N1 at *
              generalize ((n : Nat) : Int) = N0 at *
              simp [c0, ix, ld, ec, aExtract, es, hl2', lp2, hl3, cl, wl, pc, ej, e4, econ, nw, ap, w1]
            · have hlt := ow5.lt wf5 hc'
              rcases new5 with e | e | ⟨c', e, hc2⟩
              · rw [e] at hc'; cases hc'
              · rw [e] at hc'; exact ⟨(hyo4 c hc').1, hlt⟩
              · rw [e] at hc'; cases hc'; exact ⟨by omega, hlt⟩
    · right
      have hk' : k = ps.length := by omega
      refine ⟨.exit 0 [Z (.ptr rp 0), Z (.ptr pp 0)], u, ?_, (fun v hv => by cases hv), wfu, hzu, fun b hb h1 h2 => hou b hb h1, .inl ⟨p, rfl, hru, hpu, ?_⟩⟩
      · have c0 : ¬ (k : Int) < (ps.length : Int) := by omega
        unfold f51_l1
        simp [c0]
      · rw [← hgo, List.drop_eq_nil_of_le (by omega)]
        rfl) 8192 ps.length [Z (.ptr rp 0), Z (.ptr pp 0), Z .nils, Z x, I .i64 ps.length, I .i64 0] s5
    ⟨0, polD, .nils, [], by omega, rfl, f5.gr.wf, Nat.le_refl _, by rw [f5.gr.2.2 rp (by omega)]; exact hr4, by rw [f5.gr.2.2 pp (by omega)]; exact hp4, fun b hb h1 => rfl, by simpa [strS] using Ow.nil 1 s5, (fun c hc => by cases hc), by simp, rfl⟩ (by omega)
  have hlen5 := f5.rd.lens
  simp only [Nat.add_assoc, Nat.reduceAdd] at e2 e5
  obtain ⟨wfτ, zτ, oldτ, hcase⟩ := hj
  have h45 := f5.gr.2.1
  have oldsτ : ∀ b, b < s.size → τ.get b = s.get b := fun b hb => by rw [oldτ b (by omega) (by omega) (by omega), f5.gr.2.2 b (by omega)]; exact olds4 b hb
  rcases hcase with ⟨p, rfl, hrτ, hpτ, hres⟩ | ⟨k, rfl, hres⟩
  · have lp6 := load6 (g := τ.get) hpτ
    obtain ⟨s6, em, g6⟩ := may_run (d + 5) wfτ p
    have hr6 : s6.get rp = some (.cells true (cP pol0)) := by rw [g6.2.2 rp (by omega)]; exact hrτ
    have hp6 : s6.get pp = some (.cells true (cP p)) := by rw [g6.2.2 pp (by omega)]; exact hpτ
    have ld6 := load6 (g := s6.get) hp6
    have olds6 : ∀ b, b < s.size → s6.get b = s.get b := fun b hb => by rw [g6.2.2 b (by omega)]; exact oldsτ b hb
    have hsz : s.size ≤ s6.size := by have := g6.2.1; omega
    have hrp6 : rp < s6.size := by have := g6.2.1; omega
    cases hm : mayP p with
    | true =>
      rw [hm] at em hres
      rw [hres]
      have st6 := store6 (p := p) hr6 rfl
      obtain ⟨s7, hs7⟩ : ∃ s7, s7 = s6.set rp (.cells true (cP p)) := ⟨_, rfl⟩
      rw [← hs7] at st6
      have ld7 : aLoadN 6 (Z (.ptr rp 0)) s7.get = some (AP p) := load6 (by rw [hs7]; exact St.get_set_same _ _ _)
      refine ⟨s7, ?_, by rw [hs7]; exact St.wf_set g6.wf (by omega) _, by rw [hs7]; simpa using hsz, fun b hb => by rw [hs7, St.get_set_ne _ _ (by omega)]; exact olds6 b hb⟩
      generalize R (d + 6) = r at *
      generalize (ps.length : Int) = PL at *
      simp [nw1, e2, nw3, st4, e5, hlen5, lp, lp6, em, ld6, st6, ld7, rC, rT, retT, allV]
    | false =>
      rw [hm] at em hres
      rw [hres]
      have st6 := store6 (p := pol0) hr6 rfl
      obtain ⟨s7, hs7⟩ : ∃ s7, s7 = s6.set rp (.cells true (cP pol0)) := ⟨_, rfl⟩
      rw [← hs7] at st6
      have ld7 : aLoadN 6 (Z (.ptr rp 0)) s7.get = some (AP pol0) := load6 (by rw [hs7]; exact St.get_set_same _ _ _)
      refine ⟨s7, ?_, by rw [hs7]; exact St.wf_set g6.wf (by omega) _, by rw [hs7]; simpa using hsz, fun b hb => by rw [hs7, St.get_set_ne _ _ (by omega)]; exact olds6 b hb⟩
      generalize R (d + 6) = r at *
      generalize (ps.length : Int) = PL at *
      simp [nw1, e2, nw3, st4, e5, hlen5, lp, lp6, em, agg6, st6, ld7, rC, rT, retT, allV]
  · rw [hres]
    refine ⟨τ, ?_, wfτ, by omega, oldsτ⟩
    generalize R (d + 6) = r at *
    generalize (ps.length : Int) = PL at *
    have hk1 : ((k + 1 : Nat) : Int) = (k : Int) + 1 := by omega
    rw [hk1] at lp
    simp [nw1, e2, nw3, st4, e5, hlen5, lp]
end
end Go.Proofs.YtlhbidbdmdcdeaaGreatDoor
