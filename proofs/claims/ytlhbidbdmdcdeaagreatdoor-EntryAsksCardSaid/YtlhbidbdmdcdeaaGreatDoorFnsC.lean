/-
  Several texts in one: what functions that the law reaches compute. No conditions but those named in each line.
-/
import Derived.Test.YtlhbidbdmdcdeaaGreatDoorFnsB
import Derived.Test.YtlhbidbdmdcdeaaGreatDoorFnsA
/-
  The document's own lists of segments: find, has, insert, and are two the same? No conditions but those named in each line.
-/
namespace Go.Proofs.YtlhbidbdmdcdeaaGreatDoor
open Go Go.Abs Go.Abs.F
set_option linter.unusedVariables false
section
variable {s t : St} {x y : S} {l m : List Inf}

abbrev RI (s : St) (x : S) (l : List Inf) : Prop := Rd 5 s x l.length (cells cI l)
abbrev FI (s0 s : St) (x : S) (l : List Inf) : Prop := Fr 5 s0 s x l.length (cells cI l)

theorem RI.atI (h : RI s x l) {j : Nat} {n : Int} {a : Inf} (hn : n = j) (ha : l[j]? = some a) : ∃ c p, aIndexSl 5 (Z x) (I .i64 n) = some (Z (.ptr c p)) ∧ aLoad1 (Z (.ptr c (p + 0))) s.get = some (I .i64 a.i) ∧ aLoadN 5 (Z (.ptr c p)) s.get = some (AI a) := by
  obtain ⟨c, p, h1, h2, h3⟩ := Rd.at h hn (List.getElem?_eq_some_iff.1 ha).1
  rw [cells_row cI_len ha] at h3
  exact ⟨c, p, h1, h2 0 (.int .i64 a.i) (by omega) (by rw [cells_get cI_len ha (by omega)]; rfl), h3⟩

def findI (id : Int) : List Inf → Nat → Int
  | [], _ => -1
  | a :: l, n => if a.i = id then ((n : Nat) : Int) else findI id l (n + 1)

theorem rfind_run (d : Nat) (h : RI s x l) (hl : l.length ≤ 8000) (id : Int) : R (d + 1) 61 [Z x, I .i64 id] s = some (I .i64 (findI id l 0), s) := by
  rw [f61_run]
  unfold f61
  have ll := h.lens
  obtain ⟨j, τ, lp, hj, rfl⟩ := loops_inv (f := f61_l1 (R d) 8192)
    (fun q v u => ∃ n : Nat, q + n = l.length ∧ v = [Z x, I .i64 id, I .i64 ((n : Nat) : Int)] ∧ u = s ∧ findI id (l.drop n) n = findI id l 0)
    (fun j u => (j = .exit 0 [] ∧ findI id l 0 = -1 ∨ j = .ret (I .i64 (findI id l 0))) ∧ u = s) (by
    rintro q v u ⟨n, hn, rfl, rfl, hf⟩
    by_cases hnl : n < l.length
    · have hg : l[n]? = some l[n] := List.getElem?_eq_getElem hnl
      obtain ⟨a, ha⟩ : ∃ a, a = l[n] := ⟨_, rfl⟩
      rw [← ha] at hg
      rw [List.drop_eq_getElem_cons hnl, ← ha] at hf
      have hf' : (if a.i = id then ((n : Nat) : Int) else findI id (l.drop (n + 1)) (n + 1)) = findI id l 0 := hf
      obtain ⟨c, p, ix, l0, _⟩ := h.atI (n := ((n : Nat) : Int)) rfl hg
      have fa0 : aFieldAddr 0 (Z (.ptr c p)) = some (Z (.ptr c (p + 0))) := rfl
      have c0 : ((n : Nat) : Int) < ((l.length : Nat) : Int) := by omega
      have w1 : IntKind.i64.wrap ((n : Int) + 1) = ((n + 1 : Nat) : Int) := by rw [wrap_in _ (by omega) (by omega)]; omega
      by_cases hi : a.i = id
      · right
        rw [if_pos hi] at hf'
        refine ⟨.ret (I .i64 (findI id l 0)), u, ?_, (fun v hv => by cases hv), .inr rfl, rfl⟩
        rw [← hf']
        unfold f61_l1
        clear hf hf'
        generalize ((n : Nat) : Int) = N0 at *
        generalize ((l.length : Nat) : Int) = LL at *
        generalize p + 0 = p0 at *
        simp [ll, c0, ix, fa0, l0, hi]
      · left
        rw [if_neg hi] at hf'
        refine ⟨[Z x, I .i64 id, I .i64 ((n + 1 : Nat) : Int)], u, q - 1, ?_, by omega, n + 1, by omega, rfl, rfl, hf'⟩
        unfold f61_l1
        clear hf hf'
        generalize ((n + 1 : Nat) : Int) = N1 at *
        generalize ((n : Nat) : Int) = N0 at *
        generalize ((l.length : Nat) : Int) = LL at *
        generalize p + 0 = p0 at *
        simp [ll, c0, ix, fa0, l0, hi, w1]
    · right
      have hnn : n = l.length := by omega
      subst hnn
      rw [List.drop_length] at hf
      refine ⟨.exit 0 [], u, ?_, (fun v hv => by cases hv), .inl ⟨rfl, hf.symm⟩, rfl⟩
      unfold f61_l1
      simp [ll]) 8192 l.length [Z x, I .i64 id, I .i64 0] s ⟨0, by omega, rfl, rfl, by rw [List.drop_zero]⟩ (by omega)
  rcases hj with ⟨rfl, hf⟩ | rfl
  · rw [hf]
    simp [lp]
  · generalize findI id l 0 = FF at *
    simp [lp]

theorem find_eq : ∀ (l : List Inf) (id : Int) (n : Nat), (l.Pairwise fun a b => a.i < b.i) → findI id l n = if thereP l id = true then ((n + kOf l id : Nat) : Int) else -1
  | [], id, n, _ => rfl
  | a :: l, id, n, hp => by
    have hp' := List.pairwise_cons.1 hp
    have ih := find_eq l id (n + 1) hp'.2
    show (if a.i = id then ((n : Nat) : Int) else findI id l (n + 1)) = _
    by_cases h : a.i = id
    · have ht : thereP (a :: l) id = true := by simp [thereP, h]
      have hk : kOf (a :: l) id = 0 := by simp [kOf, List.takeWhile_cons, lowI, h]
      rw [if_pos h, ht, hk, if_pos rfl]
      rfl
    · rw [if_neg h, ih]
      have ht : thereP (a :: l) id = thereP l id := by simp [thereP, h]
      rw [ht]
      by_cases hl : thereP l id = true
      · rw [if_pos hl, if_pos hl]
        have hlow : lowI id a = true := by
          unfold thereP at hl
          rw [List.any_eq_true] at hl
          obtain ⟨b, hb, eb⟩ := hl
          have := hp'.1 b hb
          have eb' : b.i = id := by simpa using eb
          exact decide_eq_true (by omega)
        have hk : kOf (a :: l) id = kOf l id + 1 := by simp [kOf, List.takeWhile_cons, hlow]
        rw [hk]
        congr 1; omega
      · rw [if_neg hl, if_neg hl]

abbrev I64I (l : List Int) : List S := l.map (S.int .i64)
theorem rhas_run (d : Nat) {is : List Int} (h : Rd 1 s x is.length (I64I is)) (hl : is.length ≤ 8000) (id : Int) : R (d + 1) 62 [Z x, I .i64 id] s = some (B (decide (id ∈ is)), s) := by
  rw [f62_run]
  unfold f62
  have ll := h.lens
  obtain ⟨j, τ, lp, hj, rfl⟩ := loops_inv (f := f62_l1 (R d) 8192)
    (fun q v u => ∃ n : Nat, q + n = is.length ∧ v = [Z x, I .i64 id, I .i64 ((n : Nat) : Int)] ∧ u = s ∧ id ∉ is.take n)
    (fun j u => (j = .exit 0 [] ∧ id ∉ is ∨ j = .ret (B true) ∧ id ∈ is) ∧ u = s) (by
    rintro q v u ⟨n, hn, rfl, rfl, hf⟩
    by_cases hnl : n < is.length
    · have hg : is[n]? = some is[n] := List.getElem?_eq_getElem hnl
      obtain ⟨p, ix, ld⟩ := h.at1 (j := n) (i := ((n : Nat) : Int)) (v := .int .i64 is[n]) rfl (by simp [I64I, hnl])
      have c0 : ((n : Nat) : Int) < ((is.length : Nat) : Int) := by omega
      have w1 : IntKind.i64.wrap ((n : Int) + 1) = ((n + 1 : Nat) : Int) := by rw [wrap_in _ (by omega) (by omega)]; omega
      by_cases hi : is[n] = id
      · right
        refine ⟨.ret (B true), u, ?_, (fun v hv => by cases hv), .inr ⟨rfl, by rw [← hi]; exact List.getElem_mem hnl⟩, rfl⟩
        unfold f62_l1
        generalize ((n : Nat) : Int) = N0 at *
        generalize ((is.length : Nat) : Int) = LL at *
        simp [ll, c0, ix, ld, hi]
      · left
        refine ⟨[Z x, I .i64 id, I .i64 ((n + 1 : Nat) : Int)], u, q - 1, ?_, by omega, n + 1, by omega, rfl, rfl, ?_⟩
        · unfold f62_l1
          generalize ((n + 1 : Nat) : Int) = N1 at *
          generalize ((n : Nat) : Int) = N0 at *
          generalize ((is.length : Nat) : Int) = LL at *
          simp [ll, c0, ix, ld, hi, w1]
        · rw [List.take_add_one, hg]
          intro hm
          rcases List.mem_append.1 hm with h1 | h1
          · exact hf h1
          · have h2 : id = is[n] := by simpa using h1
            exact hi h2.symm
    · right
      have hnn : n = is.length := by omega
      subst hnn
      rw [List.take_length] at hf
      refine ⟨.exit 0 [], u, ?_, (fun v hv => by cases hv), .inl ⟨rfl, hf⟩, rfl⟩
      unfold f62_l1
      simp [ll]) 8192 is.length [Z x, I .i64 id, I .i64 0] s ⟨0, by omega, rfl, rfl, by simp⟩ (by omega)
  rcases hj with ⟨rfl, hf⟩ | ⟨rfl, hf⟩
  · rw [decide_eq_false hf]
    simp [lp]
  · rw [decide_eq_true hf]
    simp [lp]

theorem split3 (wf : s.wf) (h : RI s x l) (hox : ∀ c, own x = some c → c < s.size) (hl : l.length ≤ 8000) {k r : Nat} (hk : k ≤ l.length) (hr : r ≤ l.length) :
    ∃ s1 y1 y s2, aNew s (nSlice 0 (aFill [] [])) = some (Z (.sl s.size 0 0 (.known 0)), s1) ∧ aPieceSl 5 (Z x) none (some (I .i64 ((k : Nat) : Int))) none = some (Z y1) ∧ aAppend 5 40 (Z (.sl s.size 0 0 (.known 0))) (Z y1) s1 = some (Z y, s2) ∧
      FI s s2 y (l.take k) ∧ ∃ y2, aPieceSl 5 (Z x) (some (I .i64 ((r : Nat) : Int))) none none = some (Z y2) ∧ (own y2 = none ∨ own y2 = own x) ∧ RI s y2 (l.drop r) := by
  have f0 := Fr.lit 5 wf (n := 0) (vs := []) rfl
  obtain ⟨y1, p1, rd1, ow1⟩ := Rd.upto h hk
  rw [cells_take cI_len] at rd1
  have o1 : ∀ c, own y1 = some c → c < s.size := fun c hc => by
    rcases ow1 with e | e
    · rw [e] at hc; cases hc
    · rw [e] at hc; exact hox c hc
  have hlk : (l.take k).length = k := by rw [List.length_take]; omega
  obtain ⟨y, s2, e1, f1, _⟩ := f0.append (by_ := 40) (by omega) (rd1.gr o1 f0.gr).src (by rw [cells_len (e := 5) cI_len, hlk]) (by omega)
  simp only [Nat.zero_add, List.nil_append] at f1
  obtain ⟨y2, p2, rd2, ow2⟩ := Rd.onfrom h hr
  rw [cells_drop cI_len] at rd2
  refine ⟨_, y1, y, s2, rfl, p1, e1, ?_, y2, p2, ow2, ?_⟩
  · unfold FI; rw [hlk]; exact f1
  · unfold RI; rw [List.length_drop]; exact rd2

theorem rinsert_run (d : Nat) (wf : s.wf) (h : RI s x l) (hox : ∀ c, own x = some c → c < s.size) (hl : l.length ≤ 8000) (a : Inf) : ∃ y t, R (d + 1) 63 [Z x, AI a] s = some (Z y, t) ∧ FI s t y (insL l a) := by
  rw [f63_run]
  unfold f63
  have ll := h.lens
  obtain ⟨n, hn⟩ : ∃ n, n = s.size := ⟨_, rfl⟩
  obtain ⟨s1, hs1⟩ : ∃ s1, s1 = s.push (.cells true (cI a)) := ⟨_, rfl⟩
  have nw1 : aNew s (nBox (AI a)) = some (Z (.ptr n 0), s1) := by rw [hs1, hn]; rfl
  have g1 : Gr s s1 := by rw [hs1]; exact Gr.push wf _
  have b1 : s1.get n = some (.cells true (cI a)) := by rw [hs1, hn]; exact St.get_push_same _ _
  have h1 : RI s1 x l := h.gr hox g1
  have ai : aLoad1 (Z (.ptr n 0)) s1.get = some (I .i64 a.i) := aLoad1_of b1 rfl
  obtain ⟨j, τ, lp, rfl, rfl⟩ := loops_inv (f := f63_l1 (R d) 8192)
    (fun q v u => ∃ k : Nat, q + k = l.length ∧ v = [Z x, Z (.ptr n 0), I .i64 ((k : Nat) : Int)] ∧ u = s1 ∧ ∀ (b : Nat) (z : Inf), b < k → l[b]? = some z → lowI a.i z = true)
    (fun j u => j = .exit 0 [Z x, Z (.ptr n 0), I .i64 ((kOf l a.i : Nat) : Int)] ∧ u = s1) (by
    rintro q v u ⟨k, hk, rfl, rfl, hf⟩
    by_cases hkl : k < l.length
    · have hg : l[k]? = some l[k] := List.getElem?_eq_getElem hkl
      obtain ⟨z, hz⟩ : ∃ z, z = l[k] := ⟨_, rfl⟩
      rw [← hz] at hg
      obtain ⟨c, p, ix, l0, _⟩ := h1.atI (n := ((k : Nat) : Int)) rfl hg
      have fa0 : aFieldAddr 0 (Z (.ptr c p)) = some (Z (.ptr c (p + 0))) := rfl
      have c0 : ((k : Nat) : Int) < ((l.length : Nat) : Int) := by omega
      have w1 : IntKind.i64.wrap ((k : Int) + 1) = ((k + 1 : Nat) : Int) := by rw [wrap_in _ (by omega) (by omega)]; omega
      by_cases hi : z.i < a.i
      · left
        refine ⟨[Z x, Z (.ptr n 0), I .i64 ((k + 1 : Nat) : Int)], u, q - 1, ?_, by omega, k + 1, by omega, rfl, rfl, fun b w hb hw => ?_⟩
        · unfold f63_l1
          generalize ((k + 1 : Nat) : Int) = N1 at *
          generalize ((k : Nat) : Int) = N0 at *
          generalize ((l.length : Nat) : Int) = LL at *
          generalize p + 0 = p0 at *
          simp [ll, c0, ix, fa0, l0, ai, hi, w1]
        · by_cases e : b = k
          · subst e; rw [hg] at hw; cases hw; exact decide_eq_true hi
          · exact hf b w (by omega) hw
      · right
        have hko : kOf l a.i = k := tw_len l k (by omega) hf (fun w hw => by rw [hg] at hw; cases hw; exact decide_eq_false hi)
        refine ⟨_, u, ?_, (fun v hv => by cases hv), rfl, rfl⟩
        rw [hko]
        unfold f63_l1
        generalize ((k : Nat) : Int) = N0 at *
        generalize ((l.length : Nat) : Int) = LL at *
        generalize p + 0 = p0 at *
        simp [ll, c0, ix, fa0, l0, ai, hi]
    · right
      have hkk : k = l.length := by omega
      subst hkk
      have hko : kOf l a.i = l.length := tw_len l _ (Nat.le_refl _) hf (fun w hw => by have := (List.getElem?_eq_some_iff.1 hw).1; omega)
      refine ⟨_, u, ?_, (fun v hv => by cases hv), rfl, rfl⟩
      rw [hko]
      unfold f63_l1
      simp [ll]) 8192 l.length [Z x, Z (.ptr n 0), I .i64 0] s1 ⟨0, by omega, rfl, rfl, fun b z hb => by omega⟩ (by omega)
  have ho1 : ∀ c, own x = some c → c < τ.size := fun c hc => Nat.lt_of_lt_of_le (hox c hc) g1.2.1
  have hkl := kOf_le l a.i
  obtain ⟨u1, y1, y, u2, n1, p1, e1, f1, y2, p2, ow2, rd2⟩ := split3 g1.wf h1 ho1 hl hkl hkl
  have b2 : u2.get n = some (.cells true (cI a)) := f1.gr.get b1 g1.wf
  have la : aLoadN 5 (Z (.ptr n 0)) u2.get = some (AI a) := by
    simp only [aLoadN, b2]
    rw [if_pos (by simp [cI])]
    rfl
  have L := Fr.lit 5 f1.gr.wf (n := 1) (vs := cells cI [a]) (by simp [cI])
  obtain ⟨u3, hu3⟩ : ∃ u3, u3 = u2.push (.cells true (cells cI [a])) := ⟨_, rfl⟩
  rw [← hu3] at L
  have n3 : aNew u2 (nSlice 1 (aFill [.int .i64 0, .int .i64 0, .int .i64 0, .int .i64 0, .int .u32 0] [(0, 5, AI a)])) = some (Z (.sl u2.size 0 1 (.known 1)), u3) := by rw [hu3]; rfl
  obtain ⟨y4, u4, e4, f4, _⟩ := (f1.gr' L.gr).append (by_ := 40) (by omega) L.rd.src (by simp [cI]) (by simp; omega)
  have o2 : ∀ c, own y2 = some c → c < τ.size := fun c hc => by
    rcases ow2 with e | e
    · rw [e] at hc; cases hc
    · rw [e] at hc; exact ho1 c hc
  have rd4 : RI u4 y2 (l.drop (kOf l a.i)) := rd2.gr o2 f4.gr
  have hdl : (l.drop (kOf l a.i)).length = l.length - kOf l a.i := by simp
  have htl : (l.take (kOf l a.i)).length = kOf l a.i := by rw [List.length_take]; omega
  obtain ⟨y5, u5, e5, f5, _⟩ := f4.append (by_ := 40) (by omega) rd4.src (cells_len (e := 5) cI_len _) (by omega)
  refine ⟨y5, u5, ?_, ?_⟩
  · generalize ((kOf l a.i : Nat) : Int) = K at *
    generalize τ.size = zt at *
    generalize u2.size = z2 at *
    simp [nw1, lp, n1, p1, e1, la, n3, e4, p2, e5]
  · have hc : cells cI (insL l a) = cells cI (l.take (kOf l a.i)) ++ cells cI [a] ++ cells cI (l.drop (kOf l a.i)) := by simp [insL, cells]
    have hn' : (insL l a).length = (l.take (kOf l a.i)).length + 1 + (l.drop (kOf l a.i)).length := by simp [insL]; omega
    unfold FI
    rw [hc, hn']
    exact f5.from g1

theorem neI (a b : Inf) : neB (.a 5 [(0, .i), (1, .i), (2, .i), (3, .i), (4, .i)]) (AI a) (AI b) = some (B (!decide (a = b))) := by
  have h : aEq (.a 5 [(0, .i), (1, .i), (2, .i), (3, .i), (4, .i)]) (AI a) (AI b) = some (decide (a = b)) := by
    obtain ⟨a1, a2, a3, a4, a5⟩ := a
    obtain ⟨b1, b2, b3, b4, b5⟩ := b
    show some (decide (a1 = b1) && (decide (a2 = b2) && (decide (a3 = b3) && (decide (a4 = b4) && (decide (a5 = b5) && true))))) = some (decide (Inf.mk a1 a2 a3 a4 a5 = Inf.mk b1 b2 b3 b4 b5))
    simp only [Inf.mk.injEq, Bool.and_true, Bool.decide_and]
  simp only [neB, h]

theorem same_take {n : Nat} (h : l.take n = m.take n) {a b : Inf} (ha : l[n]? = some a) (hb : m[n]? = some b) (e : a = b) : l.take (n + 1) = m.take (n + 1) := by
  rw [List.take_add_one, List.take_add_one, h, ha, hb, e]

theorem rsameI_run (d : Nat) (h : RI s x l) (k : RI s y m) (hl : l.length ≤ 8000) : R (d + 1) 37 [Z x, Z y] s = some (B (decide (l = m)), s) := by
  rw [f37_run]
  unfold f37
  have ll := h.lens
  have lm := k.lens
  by_cases hlen : l.length = m.length
  · have c1 : ((l.length : Nat) : Int) = ((m.length : Nat) : Int) := by omega
    obtain ⟨j, τ, lp, hj, rfl⟩ := loops_inv (f := f37_l1 (R d) 8192)
      (fun q v u => ∃ n : Nat, q + n = l.length ∧ v = [Z x, Z y, I .i64 ((n : Nat) : Int)] ∧ u = s ∧ l.take n = m.take n)
      (fun j u => (j = .exit 0 [] ∧ l = m ∨ j = .ret (B false) ∧ l ≠ m) ∧ u = s) (by
      rintro q v u ⟨n, hn, rfl, rfl, hf⟩
      by_cases hnl : n < l.length
      · have hg : l[n]? = some l[n] := List.getElem?_eq_getElem hnl
        have hg2 : m[n]? = some m[n] := List.getElem?_eq_getElem (by omega)
        obtain ⟨a, ha⟩ : ∃ a, a = l[n] := ⟨_, rfl⟩
        obtain ⟨b, hb⟩ : ∃ b, b = m[n] := ⟨_, rfl⟩
        rw [← ha] at hg
        rw [← hb] at hg2
        obtain ⟨c, p, ix, _, ld⟩ := h.atI (n := ((n : Nat) : Int)) rfl hg
        obtain ⟨c', p', ix', _, ld'⟩ := k.atI (n := ((n : Nat) : Int)) rfl hg2
        have ne := neI a b
        have c0 : ((n : Nat) : Int) < ((l.length : Nat) : Int) := by omega
        have w1 : IntKind.i64.wrap ((n : Int) + 1) = ((n + 1 : Nat) : Int) := by rw [wrap_in _ (by omega) (by omega)]; omega
        by_cases e : a = b
        · left
          rw [decide_eq_true e] at ne
          refine ⟨[Z x, Z y, I .i64 ((n + 1 : Nat) : Int)], u, q - 1, ?_, by omega, n + 1, by omega, rfl, rfl, same_take hf hg hg2 e⟩
          unfold f37_l1
          generalize ((n + 1 : Nat) : Int) = N1 at *
          generalize ((n : Nat) : Int) = N0 at *
          generalize ((l.length : Nat) : Int) = LL at *
          simp [ll, c0, ix, ld, ix', ld', ne, w1]
        · right
          rw [decide_eq_false e] at ne
          refine ⟨.ret (B false), u, ?_, (fun v hv => by cases hv), .inr ⟨rfl, fun hh => e (by rw [hh] at hg; rw [hg] at hg2; cases hg2; rfl)⟩, rfl⟩
          unfold f37_l1
          generalize ((n : Nat) : Int) = N0 at *
          generalize ((l.length : Nat) : Int) = LL at *
          simp [ll, c0, ix, ld, ix', ld', ne]
      · right
        have hnn : n = l.length := by omega
        subst hnn
        rw [List.take_length, hlen, List.take_length] at hf
        refine ⟨.exit 0 [], u, ?_, (fun v hv => by cases hv), .inl ⟨rfl, hf⟩, rfl⟩
        unfold f37_l1
        simp [ll]) 8192 l.length [Z x, Z y, I .i64 0] s ⟨0, by omega, rfl, rfl, by simp⟩ (by omega)
    rcases hj with ⟨rfl, hf⟩ | ⟨rfl, hf⟩
    · rw [decide_eq_true hf]
      simp [ll, lm, c1, lp]
    · rw [decide_eq_false hf]
      simp [ll, lm, c1, lp]
  · have c1 : ¬ ((l.length : Nat) : Int) = ((m.length : Nat) : Int) := by omega
    rw [decide_eq_false (fun h => hlen (by rw [h]))]
    simp [ll, lm, c1]

theorem eqSl_run (d : Nat) (h : RI s x l) (k : RI s y m) (hl : l.length ≤ 8000) : R (d + 1) 65 [Z x, Z y] s = some (B (decide (l = m)), s) := by
  rw [f65_run]
  unfold f65
  have ll := h.lens
  have lm := k.lens
  by_cases hlen : l.length = m.length
  · have c1 : ((l.length : Nat) : Int) = ((m.length : Nat) : Int) := by omega
    obtain ⟨j, τ, lp, hj, rfl⟩ := loops_inv (f := f65_l1 (R d) 8192)
      (fun q v u => ∃ n : Nat, q + n = l.length ∧ v = [Z x, Z y, I .i64 ((l.length : Nat) : Int), I .i64 ((n : Nat) : Int)] ∧ u = s ∧ l.take n = m.take n)
      (fun j u => (j = .exit 0 [] ∧ l = m ∨ j = .ret (B false) ∧ l ≠ m) ∧ u = s) (by
      rintro q v u ⟨n, hn, rfl, rfl, hf⟩
      by_cases hnl : n < l.length
      · have hg : l[n]? = some l[n] := List.getElem?_eq_getElem hnl
        have hg2 : m[n]? = some m[n] := List.getElem?_eq_getElem (by omega)
        obtain ⟨a, ha⟩ : ∃ a, a = l[n] := ⟨_, rfl⟩
        obtain ⟨b, hb⟩ : ∃ b, b = m[n] := ⟨_, rfl⟩
        rw [← ha] at hg
        rw [← hb] at hg2
        obtain ⟨c, p, ix, _, ld⟩ := h.atI (n := ((n : Nat) : Int)) rfl hg
        obtain ⟨c', p', ix', _, ld'⟩ := k.atI (n := ((n : Nat) : Int)) rfl hg2
        have ne := neI a b
        have c0 : ((n : Nat) : Int) < ((l.length : Nat) : Int) := by omega
        have w1 : IntKind.i64.wrap ((n : Int) + 1) = ((n + 1 : Nat) : Int) := by rw [wrap_in _ (by omega) (by omega)]; omega
        by_cases e : a = b
        · left
          rw [decide_eq_true e] at ne
          refine ⟨[Z x, Z y, I .i64 ((l.length : Nat) : Int), I .i64 ((n + 1 : Nat) : Int)], u, q - 1, ?_, by omega, n + 1, by omega, rfl, rfl, same_take hf hg hg2 e⟩
          unfold f65_l1
          generalize ((n + 1 : Nat) : Int) = N1 at *
          generalize ((n : Nat) : Int) = N0 at *
          generalize ((l.length : Nat) : Int) = LL at *
          simp [ll, c0, ix, ld, ix', ld', ne, w1]
        · right
          rw [decide_eq_false e] at ne
          refine ⟨.ret (B false), u, ?_, (fun v hv => by cases hv), .inr ⟨rfl, fun hh => e (by rw [hh] at hg; rw [hg] at hg2; cases hg2; rfl)⟩, rfl⟩
          unfold f65_l1
          generalize ((n : Nat) : Int) = N0 at *
          generalize ((l.length : Nat) : Int) = LL at *
          simp [ll, c0, ix, ld, ix', ld', ne]
      · right
        have hnn : n = l.length := by omega
        subst hnn
        rw [List.take_length, hlen, List.take_length] at hf
        have c0 : ¬ ((l.length : Nat) : Int) < ((l.length : Nat) : Int) := by omega
        refine ⟨.exit 0 [], u, ?_, (fun v hv => by cases hv), .inl ⟨rfl, hf⟩, rfl⟩
        unfold f65_l1
        simp [c0]) 8192 l.length [Z x, Z y, I .i64 ((l.length : Nat) : Int), I .i64 0] s ⟨0, by omega, rfl, rfl, by simp⟩ (by omega)
    rcases hj with ⟨rfl, hf⟩ | ⟨rfl, hf⟩
    · rw [decide_eq_true hf]
      generalize ((l.length : Nat) : Int) = LL at *
      generalize ((m.length : Nat) : Int) = LM at *
      subst c1
      simp [ll, lm, lp]
    · rw [decide_eq_false hf]
      generalize ((l.length : Nat) : Int) = LL at *
      generalize ((m.length : Nat) : Int) = LM at *
      subst c1
      simp [ll, lm, lp]
  · have c1 : ¬ ((l.length : Nat) : Int) = ((m.length : Nat) : Int) := by omega
    rw [decide_eq_false (fun h => hlen (by rw [h]))]
    simp [ll, lm, c1]

theorem sameInfo_run (d : Nat) (h : RI s x l) (k : RI s y m) (hl : l.length ≤ 8000) : R (d + 2) 36 [Z x, Z y] s = some (B (decide (l = m)), s) := by
  rw [f36_run]
  unfold f36
  have e := eqSl_run d h k hl
  generalize R (d + 1) = r at *
  simp [e]
end
end Go.Proofs.YtlhbidbdmdcdeaaGreatDoor


/-
  The document's own reader of policies: its numbers, names, words. No conditions but those named in each line.
-/
namespace Go.Proofs.YtlhbidbdmdcdeaaGreatDoor
open Go Go.Abs Go.Abs.F
set_option linter.unusedVariables false
section
variable {s t : St} {x y : S} {l : Bs} {i : Nat}

def rnumV (l : Bs) : Int := if numOk l = true then (numV l : Nat) else -1

theorem valD_take {l : Bs} {k : Nat} (hk : k < l.length) : valD (l.take (k + 1)) = valD (l.take k) * 10 + (l[k].toNat - 48) := by
  rw [List.take_add_one, List.getElem?_eq_getElem hk, Option.toList_some, valD_snoc]

theorem all_take_dig {l : Bs} {k : Nat} (hk : k < l.length) (h : (l.take k).all isDig = true) (hd : isDig l[k] = true) : (l.take (k + 1)).all isDig = true := by
  rw [List.take_add_one, List.getElem?_eq_getElem hk, Option.toList_some, List.all_append, h]
  simp [hd]

theorem not_all_dig {l : Bs} {k : Nat} (hk : k < l.length) (hd : isDig l[k] = false) : l.all isDig = false := by
  rw [Bool.eq_false_iff]
  intro h
  rw [List.all_eq_true] at h
  rw [h _ (List.getElem_mem hk)] at hd
  cases hd

theorem rnumber_run (d : Nat) : R (d + 1) 99 [Z (.str l)] s = some (I .i64 (rnumV l), s) := by
  rw [f99_run]
  unfold f99
  by_cases h1 : l.length < 1
  · have hn : rnumV l = -1 := by unfold rnumV numOk; rw [if_neg]; simp; omega
    have c1 : ((l.length : Nat) : Int) < 1 := by omega
    have hl : aLenStr (Z (.str l)) = some (I .i64 ((l.length : Nat) : Int)) := rfl
    rw [hn]
    generalize ((l.length : Nat) : Int) = L at *
    simp [hl, c1, gtt]
  · by_cases h2 : 13 < l.length
    · have hn : rnumV l = -1 := by unfold rnumV numOk; rw [if_neg]; simp; omega
      have c1 : ¬ ((l.length : Nat) : Int) < 1 := by omega
      have c2 : (13 : Int) < ((l.length : Nat) : Int) := by omega
      rw [hn]
      have hl : aLenStr (Z (.str l)) = some (I .i64 ((l.length : Nat) : Int)) := rfl
      generalize ((l.length : Nat) : Int) = L at *
      simp [hl, c1, c2]
    · have c1 : ¬ ((l.length : Nat) : Int) < 1 := by omega
      have c2 : ¬ (13 : Int) < ((l.length : Nat) : Int) := by omega
      have hl : aLenStr (Z (.str l)) = some (I .i64 ((l.length : Nat) : Int)) := rfl
      obtain ⟨j, τ, lp, hj, hτ⟩ := loops_inv (f := f99_l1 (R d) 8192) (fun q v u => ∃ k : Nat, q + k = l.length ∧ v = [Z (.str l), I .i64 ((valD (l.take k) : Nat) : Int), I .i64 (k : Nat)] ∧ u = s ∧ (l.take k).all isDig = true)
        (fun j u => (j = .exit 0 [I .i64 (rnumV l)] ∨ j = .ret (I .i64 (rnumV l))) ∧ u = s) (by
        rintro q v u ⟨k, hk, rfl, rfl, ha⟩
        by_cases hkl : k < l.length
        · have c0 : ((k : Nat) : Int) < ((l.length : Nat) : Int) := by omega
          have ac := at_str (bs := l) (n := ((k : Nat) : Int)) rfl (List.getElem?_eq_getElem hkl)
          have hcl := l[k].toNat_lt
          cases hd : isDig l[k] with
          | true =>
            left
            have hr := isDig_iff.1 hd
            have hv := valD_lt k (l.take k) (by rw [List.length_take]; omega) ha
            have h13 : 10 ^ k ≤ 10 ^ 13 := Nat.pow_le_pow_right (by omega) (by omega)
            have h13' : (10 : Nat) ^ 13 = 10000000000000 := by decide
            have d1 : ¬ ((l[k].toNat : Nat) : Int) < 48 := by omega
            have d2 : ¬ (57 : Int) < ((l[k].toNat : Nat) : Int) := by omega
            have w1 : IntKind.i64.wrap (((valD (l.take k) : Nat) : Int) * 10) = ((valD (l.take k) * 10 : Nat) : Int) := by rw [wrap_in _ (by omega) (by omega)]; omega
            have w2 : IntKind.u8.wrap (((l[k].toNat : Nat) : Int) - 48) = ((l[k].toNat - 48 : Nat) : Int) := by
              have : ((l[k].toNat : Nat) : Int) - 48 = ((l[k].toNat - 48 : Nat) : Int) := by omega
              rw [this, wrap8, Nat.mod_eq_of_lt (by omega)]
            have w3 : IntKind.i64.wrap ((l[k].toNat - 48 : Nat) : Int) = ((l[k].toNat - 48 : Nat) : Int) := wrapi _ (by omega)
            have w4 : IntKind.i64.wrap (((valD (l.take k) * 10 : Nat) : Int) + ((l[k].toNat - 48 : Nat) : Int)) = ((valD (l.take (k + 1)) : Nat) : Int) := by
              rw [valD_take hkl, wrap_in _ (by omega) (by omega)]; omega
            have w5 : IntKind.i64.wrap ((k : Int) + 1) = ((k + 1 : Nat) : Int) := by rw [wrap_in _ (by omega) (by omega)]; omega
            refine ⟨[Z (.str l), I .i64 ((valD (l.take (k + 1)) : Nat) : Int), I .i64 ((k + 1 : Nat) : Int)], u, q - 1, ?_, by omega, k + 1, by omega, rfl, rfl, all_take_dig hkl ha hd⟩
            unfold f99_l1
            generalize ((valD (l.take (k + 1)) : Nat) : Int) = V1 at *
            generalize ((valD (l.take k) * 10 : Nat) : Int) = V10 at *
            generalize ((valD (l.take k) : Nat) : Int) = V at *
            generalize ((l[k].toNat - 48 : Nat) : Int) = C48 at *
            generalize ((l[k].toNat : Nat) : Int) = C at *
            generalize ((l.length : Nat) : Int) = L at *
            generalize ((k + 1 : Nat) : Int) = K1 at *
            generalize ((k : Nat) : Int) = K at *
            simp [hl, c0, ac, d1, d2, w1, w2, w3, w4, w5]
          | false =>
            right
            have hn : rnumV l = -1 := by
              unfold rnumV numOk
              rw [not_all_dig hkl hd]
              simp
            refine ⟨.ret (I .i64 (rnumV l)), u, ?_, (fun v hv => by cases hv), .inr rfl, rfl⟩
            rw [hn]
            have hr : ((l[k].toNat : Nat) : Int) < 48 ∨ (¬ ((l[k].toNat : Nat) : Int) < 48 ∧ (57 : Int) < ((l[k].toNat : Nat) : Int)) := by
              have : ¬ (48 ≤ l[k].toNat ∧ l[k].toNat ≤ 57) := fun h => by rw [isDig_iff.2 h] at hd; cases hd
              omega
            unfold f99_l1
            generalize ((valD (l.take k) : Nat) : Int) = V at *
            generalize ((l[k].toNat : Nat) : Int) = C at *
            generalize ((l.length : Nat) : Int) = L at *
            generalize ((k : Nat) : Int) = K at *
            rcases hr with h | ⟨h, h'⟩
            · simp [hl, c0, ac, h, gtt]
            · simp [hl, c0, ac, h, h']
        · right
          have hk' : k = l.length := by omega
          have hn : rnumV l = ((valD l : Nat) : Int) := by
            rw [hk', List.take_length] at ha
            have hok : numOk l = true := by unfold numOk; rw [ha]; simp; omega
            unfold rnumV numV
            rw [if_pos hok, hok]
          have c0 : ¬ ((k : Nat) : Int) < ((l.length : Nat) : Int) := by omega
          refine ⟨.exit 0 [I .i64 (rnumV l)], u, ?_, (fun v hv => by cases hv), .inl rfl, rfl⟩
          rw [hn, hk', List.take_length]
          unfold f99_l1
          simp [hl]) 8192 l.length [Z (.str l), I .i64 0, I .i64 0] s ⟨0, rfl, rfl, rfl, by simp⟩ (by omega)
      subst hτ
      generalize ((l.length : Nat) : Int) = L at *
      rcases hj with rfl | rfl
      · simp [hl, c1, c2, lp]
      · simp [hl, c1, c2, lp]

theorem rnames_run (d : Nat) (wf : s.wf) : ∃ x t, R (d + 1) 100 [] s = some (Z x, t) ∧ FT s t x tNames := by
  rw [f100_run]
  unfold f100
  refine ⟨.sl s.size 0 4 (.known 4), s.push (.cells true (strS tNames)), ?_, Fr.lit 1 wf rfl⟩
  simp [aNew, nSlice, aFill, V.cells, setRange, strS, tNames]

def flush (cur : Bs) (r : List Bs) : List Bs := if cur = [] then r else cur :: r
def wordsR : Bs → Bs → List Bs
  | [], cur => flush cur []
  | b :: r, cur => if b = 35 then flush cur [] else if b = 32 then flush cur (wordsR r []) else wordsR r (cur ++ [b])

theorem wordsR_eq : ∀ (x cur : Bs), wordsR x cur = (match splitB 32 (x.takeWhile fun b => !Nat.beq b.toNat (35 : UInt8).toNat) with | [] => [] | h :: t => ((cur ++ h) :: t).filter fun w => !decide (w = []))
  | [], cur => by
    simp [wordsR, splitB, flush]
    by_cases h : cur = [] <;> simp [h]
  | b :: r, cur => by
    unfold wordsR
    by_cases h35 : b = 35
    · subst h35
      simp [splitB, flush, List.takeWhile]
      by_cases h : cur = [] <;> simp [h]
    · have hb : (!Nat.beq b.toNat (35 : UInt8).toNat) = true := by
        simp only [Bool.not_eq_true']
        rw [Bool.eq_false_iff]
        exact fun h => h35 (beq_byte.1 h)
      have htw : (b :: r).takeWhile (fun b => !Nat.beq b.toNat (35 : UInt8).toNat) = b :: r.takeWhile (fun b => !Nat.beq b.toNat (35 : UInt8).toNat) := by
        rw [List.takeWhile_cons, if_pos hb]
      rw [if_neg h35, htw, splitB_cons]
      by_cases h32 : b = 32
      · rw [if_pos h32, wordsR_eq r []]
        have : Nat.beq b.toNat (32 : UInt8).toNat = true := beq_byte.2 h32
        rw [this]
        simp only
        cases hs : splitB 32 (r.takeWhile fun b => !Nat.beq b.toNat (35 : UInt8).toNat) with
        | nil =>
          have := splitB_len 32 (r.takeWhile fun b => !Nat.beq b.toNat (35 : UInt8).toNat)
          rw [hs] at this
          simp at this
        | cons h t =>
          simp only [List.append_nil, List.nil_append, flush]
          by_cases hc : cur = []
          · simp [hc]
          · simp [hc]
      · have : Nat.beq b.toNat (32 : UInt8).toNat = false := by
          rw [Bool.eq_false_iff]
          exact fun h => h32 (beq_byte.1 h)
        rw [if_neg h32, this, wordsR_eq r (cur ++ [b])]
        simp only
        cases hs : splitB 32 (r.takeWhile fun b => !Nat.beq b.toNat (35 : UInt8).toNat) with
        | nil =>
          have := splitB_len 32 (r.takeWhile fun b => !Nat.beq b.toNat (35 : UInt8).toNat)
          rw [hs] at this
          simp at this
        | cons h t => simp [consHd]

theorem wordsR_of (x : Bs) : wordsR x [] = wordsOf x := by
  rw [wordsR_eq, wordsOf]
  cases hs : splitB 32 (x.takeWhile fun b => !Nat.beq b.toNat (35 : UInt8).toNat) with
  | nil => rfl
  | cons h t => simp
end
end Go.Proofs.YtlhbidbdmdcdeaaGreatDoor


/-
  The document's own reader of policies: a line's words, as it runs. No conditions but those named in each line.
-/
namespace Go.Proofs.YtlhbidbdmdcdeaaGreatDoor
open Go Go.Abs Go.Abs.F
set_option linter.unusedVariables false
section
variable {s t : St} {x y : S} {l : Bs} {i : Nat}

theorem FT_lit {s0 : St} {ws : List Bs} {c : Bs} (h : FT s0 s x ws) (hl : ws.length ≤ 1000000) :
    ∃ x' t s', aNew s (nSlice 1 (aFill [.str []] [(0, 1, Z (.str c))])) = some (Z (.sl s.size 0 1 (.known 1)), s') ∧ aAppend 1 16 (Z x) (Z (.sl s.size 0 1 (.known 1))) s' = some (Z x', t) ∧ FT s0 t x' (ws ++ [c]) := by
  obtain ⟨x', t, ⟨s', e1, e2⟩, f, _⟩ := FT.lit (c := c) h hl
  exact ⟨x', t, s', e1, e2, f⟩

theorem piece_str {l : Bs} {a b : Nat} (h : a ≤ b) (k : b ≤ l.length) : aPieceStr (Z (.str l)) (some (I .i64 (a : Nat))) (some (I .i64 (b : Nat))) none = some (Z (.str ((l.take b).drop a))) := by
  rw [aPieceStr_lh rfl rfl h k, List.drop_take]

theorem gff : gd (B false) false = some true := rfl
theorem gtf : gd (B true) false = some false := rfl

theorem rwords_run (d : Nat) (wf : s.wf) (hl : l.length ≤ 8000) : ∃ o t, R (d + 1) 83 [Z (.str l)] s = some (Z o, t) ∧ FT s t o (wordsOf l) := by
  rw [f83_run]
  unfold f83
  have hll : aLenStr (Z (.str l)) = some (I .i64 ((l.length : Nat) : Int)) := rfl
  obtain ⟨j, τ, lp, o, hj, f⟩ := loops_inv (f := f83_l1 (R d) 8192) (fun q v u => ∃ (k a : Nat) (o : S) (ws : List Bs), q + k = l.length + 1 ∧ a ≤ k ∧ k ≤ l.length ∧ v = [Z (.str l), Z o, I .i64 (a : Nat), I .i64 (k : Nat)] ∧ FT s u o ws ∧ ws.length ≤ k ∧ ws ++ wordsR (l.drop k) ((l.take k).drop a) = wordsOf l)
    (fun j u => ∃ o, j = .exit 0 [Z o] ∧ FT s u o (wordsOf l)) (by
    rintro q v u ⟨k, a, o, ws, hq, hak, hkl, rfl, f, hwl, hw⟩
    have c0 : ((k : Nat) : Int) ≤ ((l.length : Nat) : Int) := by omega
    have pc := piece_str hak hkl
    have cur0 : (l.take k).drop a = [] ↔ a = k := by
      rw [List.drop_eq_nil_iff, List.length_take]
      omega
    have fl : ∀ e : Bool, ∃ o' u', (jn (br (B (decide (((a : Nat) : Int) < ((k : Nat) : Int)))) (bd (aPieceStr (Z (.str l)) (some (I .i64 (a : Nat))) (some (I .i64 (k : Nat))) none) fun t37 =>
          bd2 (aNew u (nSlice 1 (aFill [.str []] [(0, 1, t37)]))) fun t38 s1 =>
          bd2 (aAppend 1 16 (Z o) t38 s1) fun t39 s2 => some (JO.normal [Z (.str l), t39, I .i64 (k : Nat), B e], s2))
          (some (JO.normal [Z (.str l), Z o, I .i64 (k : Nat), B e], u)) : Option (JO × St))
          (fun v3 s4 => bd (aBin .add (v3.getD 2 .any) (I .i64 1)) fun t41 => some (JO.normal [(v3.getD 0 .any), (v3.getD 1 .any), t41, (v3.getD 2 .any), (v3.getD 3 .any)], s4))
          (fun i5 v3 s4 => some (JO.exit i5 v3, s4)) (fun r6 s4 => some (JO.ret r6, s4))) = some (JO.normal [Z (.str l), Z o', I .i64 ((k + 1 : Nat) : Int), I .i64 (k : Nat), B e], u') ∧ FT s u' o' (ws ++ flush ((l.take k).drop a) []) := fun e => by
      have w1 : IntKind.i64.wrap ((k : Int) + 1) = ((k + 1 : Nat) : Int) := by rw [wrap_in _ (by omega) (by omega)]; omega
      by_cases hc : a < k
      · obtain ⟨o', u', u1, n1, p1, f'⟩ := FT_lit (c := (l.take k).drop a) f (by omega)
        have c1 : ((a : Nat) : Int) < ((k : Nat) : Int) := by omega
        refine ⟨o', u', ?_, by unfold flush; rw [if_neg (fun h => by have := cur0.1 h; omega)]; exact f'⟩
        generalize ((k + 1 : Nat) : Int) = K1 at *
        simp only [decide_eq_true c1, br_true, pc, bd_some, n1, bd2_some, p1, jn_normal, List.getD_cons_zero, List.getD_cons_succ, add_int, w1]
      · have c1 : ¬ ((a : Nat) : Int) < ((k : Nat) : Int) := by omega
        refine ⟨o, u, ?_, by unfold flush; rw [if_pos (cur0.2 (by omega)), List.append_nil]; exact f⟩
        generalize ((k + 1 : Nat) : Int) = K1 at *
        simp only [decide_eq_false c1, br_false, bd_some, jn_normal, List.getD_cons_zero, List.getD_cons_succ, add_int, w1]
    by_cases hend : k = l.length
    · obtain ⟨o', u', e1, f'⟩ := fl true
      right
      refine ⟨.exit 0 [Z o'], u', ?_, (fun v hv => by cases hv), o', rfl, ?_⟩
      · have c2 : ((k : Nat) : Int) = ((l.length : Nat) : Int) := by omega
        unfold f83_l1
        rw [← c2] at hll c0
        simp only [List.getD_cons_zero, List.getD_cons_succ, hll, bd_some, leq_int, Int.le_refl, decide_true, br_true, eql_int, gtt, gT_false, aPick_bool_true, gtr_int, e1]
        simp
      · rw [hend, List.drop_length, wordsR] at hw
        rw [← hw]
        rw [hend] at f'
        exact f'
    · have hk : k < l.length := by omega
      have c2 : ¬ ((k : Nat) : Int) = ((l.length : Nat) : Int) := by omega
      have ac := at_str (bs := l) (n := ((k : Nat) : Int)) rfl (List.getElem?_eq_getElem hk)
      have hd : l.drop k = l[k] :: l.drop (k + 1) := List.drop_eq_getElem_cons hk
      have hb : ∀ c : UInt8, decide (((l[k].toNat : Nat) : Int) = ((c.toNat : Nat) : Int)) = decide (l[k] = c) := fun c => decide_eq_decide.2 ⟨fun h => UInt8.toNat.inj (by omega), fun h => by rw [h]⟩
      have h35 := hb 35
      have h32 := hb 32
      have w1 : IntKind.i64.wrap ((k : Int) + 1) = ((k + 1 : Nat) : Int) := by rw [wrap_in _ (by omega) (by omega)]; omega
      rw [hd] at hw
      unfold wordsR at hw
      by_cases e35 : l[k] = 35
      · rw [if_pos e35] at hw
        rw [decide_eq_true e35] at h35
        obtain ⟨o', u', e1, f'⟩ := fl true
        right
        refine ⟨.exit 0 [Z o'], u', ?_, (fun v hv => by cases hv), o', rfl, by rw [← hw]; exact f'⟩
        unfold f83_l1
        have h35' : decide (((l[k].toNat : Nat) : Int) = 35) = true := h35
        generalize ((l[k].toNat : Nat) : Int) = C at *
        simp only [List.getD_cons_zero, List.getD_cons_succ, hll, bd_some, leq_int, decide_eq_true c0, br_true, eql_int, decide_eq_false c2, gff, gtf, gT_true, gT_false, ac, h35', aPick_bool_false, aPick_bool_true, gtr_int, e1]
        simp
      · rw [if_neg e35] at hw
        rw [decide_eq_false e35] at h35
        have h35' : decide (((l[k].toNat : Nat) : Int) = 35) = false := h35
        have tk : (l.take (k + 1)).drop a = (l.take k).drop a ++ [l[k]] := by
          rw [List.take_add_one, List.getElem?_eq_getElem hk, Option.toList_some, List.drop_append_of_le_length (by rw [List.length_take]; omega)]
        by_cases e32 : l[k] = 32
        · rw [if_pos e32] at hw
          rw [decide_eq_true e32] at h32
          have h32' : decide (((l[k].toNat : Nat) : Int) = 32) = true := h32
          obtain ⟨o', u', e1, f'⟩ := fl false
          left
          refine ⟨[Z (.str l), Z o', I .i64 ((k + 1 : Nat) : Int), I .i64 ((k + 1 : Nat) : Int)], u', q - 1, ?_, by omega, k + 1, k + 1, o', ws ++ flush ((l.take k).drop a) [], by omega, Nat.le_refl _, by omega, rfl, f', ?_, ?_⟩
          · unfold f83_l1
            generalize ((l[k].toNat : Nat) : Int) = C at *
            generalize ((k + 1 : Nat) : Int) = K1 at *
            simp only [List.getD_cons_zero, List.getD_cons_succ, hll, bd_some, leq_int, decide_eq_true c0, br_true, eql_int, decide_eq_false c2, gff, gtf, gT_true, gT_false, ac, h35', h32', aPick_bool_false, aPick_bool_true, gtr_int, e1]
            simp [w1]
          · unfold flush
            split
            · simp; omega
            · simp; omega
          · have : (l.take (k + 1)).drop (k + 1) = [] := by rw [List.drop_eq_nil_iff, List.length_take]; omega
            rw [this, ← hw]
            unfold flush
            split <;> simp
        · rw [if_neg e32] at hw
          rw [decide_eq_false e32] at h32
          have h32' : decide (((l[k].toNat : Nat) : Int) = 32) = false := h32
          left
          refine ⟨[Z (.str l), Z o, I .i64 (a : Nat), I .i64 ((k + 1 : Nat) : Int)], u, q - 1, ?_, by omega, k + 1, a, o, ws, by omega, by omega, by omega, rfl, f, by omega, by rw [tk]; exact hw⟩
          unfold f83_l1
          generalize ((l[k].toNat : Nat) : Int) = C at *
          generalize ((k + 1 : Nat) : Int) = K1 at *
          simp only [List.getD_cons_zero, List.getD_cons_succ, hll, bd_some, leq_int, decide_eq_true c0, br_true, eql_int, decide_eq_false c2, gff, gtf, gT_true, gT_false, ac, h35', h32', aPick_bool_false, aPick_bool_true, gtr_int, br_false]
          simp [w1]) 8192 (l.length + 1) [Z (.str l), Z .nils, I .i64 0, I .i64 0] s ⟨0, 0, .nils, [], by omega, Nat.le_refl _, by omega, rfl, Fr.nil 1 wf, by simp, by simpa using wordsR_of l⟩ (by omega)
  subst hj
  exact ⟨o, τ, by simp [lp], f⟩
end
end Go.Proofs.YtlhbidbdmdcdeaaGreatDoor


/-
  The document's own May and Default of policies. No conditions but those named in each line.
-/
namespace Go.Proofs.YtlhbidbdmdcdeaaGreatDoor
open Go Go.Abs Go.Abs.F
set_option linter.unusedVariables false
section
variable {s t : St} {x y : S} {l : Bs} {i : Nat}

theorem rdefault_run (d : Nat) (wf : s.wf) : ∃ t, R (d + 1) 60 [] s = some (AP polD, t) ∧ Gr s t := by
  rw [f60_run]
  unfold f60
  have e1 : asAggT (aFill [.int .i64 0, .int .i64 0, .int .i64 0, .int .i64 0] [(0, 1, (I .i64 60)), (1, 1, (I .i64 600)), (2, 1, (I .i64 6000)), (3, 1, (I .i64 0))]) = some (.v (.agg [.int .i64 60, .int .i64 600, .int .i64 6000, .int .i64 0])) := rfl
  have e2 : asAggT (aFill [.int .i64 0, .int .i64 0, .int .i64 0, .int .i64 0, .int .i64 0, .int .i64 0] [(0, 4, .v (.agg [.int .i64 60, .int .i64 600, .int .i64 6000, .int .i64 0])), (4, 1, (I .i64 8)), (5, 1, (I .i64 30))]) = some (AP polD) := rfl
  obtain ⟨s1, hs1⟩ : ∃ s1, s1 = s.push (.cells true (cP pol0)) := ⟨_, rfl⟩
  have nw : aNew s (nCells [.int .i64 0, .int .i64 0, .int .i64 0, .int .i64 0, .int .i64 0, .int .i64 0]) = some (Z (.ptr s.size 0), s1) := by rw [hs1]; rfl
  have h1 : s1.get s.size = some (.cells true (cP pol0)) := by rw [hs1]; exact St.get_push_same _ _
  obtain ⟨s2, hs2⟩ : ∃ s2, s2 = s1.set s.size (.cells true (cP polD)) := ⟨_, rfl⟩
  have st := store6 (p := polD) h1 rfl
  rw [← hs2] at st
  have h2 : s2.get s.size = some (.cells true (cP polD)) := by rw [hs2]; exact St.get_set_same _ _ _
  have ld := load6 (g := s2.get) h2
  refine ⟨s2, ?_, ?_⟩
  · simp [nw, e1, e2, st, ld, rC, retT]
  · rw [hs2, hs1]
    exact ⟨St.wf_set (St.wf_push wf _) (by simp) _, by simp, fun b hb => by rw [St.get_set_ne _ _ (by omega), St.get_push_ne _ _ (by omega)]⟩

set_option maxHeartbeats 2000000 in
theorem rmay_run (d : Nat) (wf : s.wf) (p : Pol) : ∃ t, R (d + 1) 85 [AP p] s = some (B (mayP p), t) ∧ Gr s t := by
  rw [f85_run]
  unfold f85
  obtain ⟨s1, hs1⟩ : ∃ s1, s1 = s.push (.cells true (cP p)) := ⟨_, rfl⟩
  have nw : aNew s (nBox (AP p)) = some (Z (.ptr s.size 0), s1) := by rw [hs1]; rfl
  have h1 : s1.get s.size = some (.cells true (cP p)) := by rw [hs1]; exact St.get_push_same _ _
  have g : Gr s s1 := by rw [hs1]; exact Gr.push wf _
  have ld : ∀ j, j < 4 → aLoad1 (Z (.ptr s.size j)) s1.get = some (I .i64 (ageAt p j)) := fun j hj => by
    match j, hj with
    | 0, _ => exact aLoad1_of h1 rfl
    | 1, _ => exact aLoad1_of h1 rfl
    | 2, _ => exact aLoad1_of h1 rfl
    | 3, _ => exact aLoad1_of h1 rfl
  have ld4 : aLoad1 (Z (.ptr s.size 4)) s1.get = some (I .i64 p.c) := aLoad1_of h1 rfl
  have ld5 : aLoad1 (Z (.ptr s.size 5)) s1.get = some (I .i64 p.n) := aLoad1_of h1 rfl
  have ix : ∀ j : Nat, j < 4 → aIndexArr 4 1 (Z (.ptr s.size 0)) (I .i64 (j : Nat)) = some (Z (.ptr s.size j)) := fun j hj => by
    match j, hj with
    | 0, _ => rfl
    | 1, _ => rfl
    | 2, _ => rfl
    | 3, _ => rfl
  obtain ⟨j, τ, lp, hj, hτ⟩ := loops_inv (f := f85_l1 (R d) 8192) (fun q v u => ∃ k : Nat, q + k = 4 ∧ v = [Z (.ptr s.size 0), I .i64 k] ∧ u = s1 ∧ ∀ j, j < k → okAt p j = true)
    (fun j u => (j = .exit 0 [Z (.ptr s.size 0)] ∧ agesOk p = true ∨ j = .ret (B false) ∧ agesOk p = false) ∧ u = s1) (by
    rintro q v u ⟨k, hk, rfl, rfl, hok⟩
    by_cases hk4 : k < 4
    · have bad : okAt p k = false → agesOk p = false := fun h => by
        rw [Bool.eq_false_iff]
        intro h2
        rw [(agesOk_iff p).1 h2 k hk4] at h
        cases h
      have next : okAt p k = true → ∀ j, j < k + 1 → okAt p j = true := fun h j hj => by
        by_cases e : j = k
        · subst e; exact h
        · exact hok j (by omega)
      have c0 : (k : Int) < 4 := by omega
      have w1 : IntKind.i64.wrap ((k : Int) + 1) = ((k + 1 : Nat) : Int) := by rw [wrap_in _ (by omega) (by omega)]; omega
      have ixk := ix k hk4
      have ldk := ld k hk4
      obtain ⟨a, ha⟩ : ∃ a, a = ageAt p k := ⟨_, rfl⟩
      rw [← ha] at ldk
      have hage : okAt p k = (ageOk a && (decide (k = 0) || nxtOk (ageAt p (k - 1)) a)) := by
        rw [ha]
        match k, hk4 with
        | 0, _ => simp [okAt, ageAt]
        | 1, _ => simp [okAt, ageAt]
        | 2, _ => simp [okAt, ageAt]
        | 3, _ => simp [okAt, ageAt]
      have fa : aFieldAddr 0 (Z (.ptr s.size 0)) = some (Z (.ptr s.size 0)) := rfl
      by_cases c1 : a < 0
      · have h : okAt p k = false := by
          have : ¬ 0 ≤ a := by omega
          rw [hage]; simp [ageOk, this]
        refine .inr ⟨.ret (B false), u, ?_, (fun v hv => by cases hv), .inr ⟨rfl, bad h⟩, rfl⟩
        unfold f85_l1
        generalize (k : Int) = K at *
        simp [c0, fa, ixk, ldk, c1, gtt]
      · by_cases c2 : 1099511627776 < a
        · have h : okAt p k = false := by
            have : ¬ a ≤ 1099511627776 := by omega
            rw [hage]; simp [ageOk, this]
          refine .inr ⟨.ret (B false), u, ?_, (fun v hv => by cases hv), .inr ⟨rfl, bad h⟩, rfl⟩
          unfold f85_l1
          generalize (k : Int) = K at *
          simp [c0, fa, ixk, ldk, c1, c2, gtt]
        · have hA : ageOk a = true := by
            have h1 : 0 ≤ a := by omega
            have h2 : a ≤ 1099511627776 := by omega
            simp [ageOk, h1, h2]
          by_cases k0 : k = 0
          · have h : okAt p k = true := by rw [hage]; simp [hA, k0]
            have ck : ¬ (0 : Int) < (k : Int) := by omega
            refine .inl ⟨[Z (.ptr s.size 0), I .i64 ((k + 1 : Nat) : Int)], u, q - 1, ?_, by omega, k + 1, by omega, rfl, rfl, next h⟩
            unfold f85_l1
            generalize ((k + 1 : Nat) : Int) = K1 at *
            generalize (k : Int) = K at *
            simp [c0, fa, ixk, ldk, c1, c2, ck, w1, gtt]
          · obtain ⟨b, hb⟩ : ∃ b, b = ageAt p (k - 1) := ⟨_, rfl⟩
            rw [← hb] at hage
            have ck : (0 : Int) < (k : Int) := by omega
            have w2 : IntKind.i64.wrap ((k : Int) - 1) = ((k - 1 : Nat) : Int) := by rw [wrap_in _ (by omega) (by omega)]; omega
            have ix1 := ix (k - 1) (by omega)
            have ld1 := ld (k - 1) (by omega)
            rw [← hb] at ld1
            by_cases c3 : a = 0
            · have h : okAt p k = true := by rw [hage, hA]; simp [nxtOk, c3]
              refine .inl ⟨[Z (.ptr s.size 0), I .i64 ((k + 1 : Nat) : Int)], u, q - 1, ?_, by omega, k + 1, by omega, rfl, rfl, next h⟩
              unfold f85_l1
              subst c3
              generalize ((k + 1 : Nat) : Int) = K1 at *
              generalize ((k - 1 : Nat) : Int) = K0 at *
              generalize (k : Int) = K at *
              simp [c0, fa, ixk, ldk, ck, w1, gtt]
            · by_cases c4 : a < b
              · have h : okAt p k = false := by
                  have h1 : ¬ b ≤ a := by omega
                  rw [hage]; simp [hA, nxtOk, c3, h1, k0]
                refine .inr ⟨.ret (B false), u, ?_, (fun v hv => by cases hv), .inr ⟨rfl, bad h⟩, rfl⟩
                unfold f85_l1
                generalize ((k + 1 : Nat) : Int) = K1 at *
                generalize ((k - 1 : Nat) : Int) = K0 at *
                generalize (k : Int) = K at *
                simp [c0, fa, ixk, ldk, c1, c2, ck, w2, ix1, ld1, c3, c4, gtt]
              · by_cases c5 : b = 0
                · have h : okAt p k = false := by rw [hage]; simp [hA, nxtOk, c3, c5, k0]
                  refine .inr ⟨.ret (B false), u, ?_, (fun v hv => by cases hv), .inr ⟨rfl, bad h⟩, rfl⟩
                  unfold f85_l1
                  generalize ((k + 1 : Nat) : Int) = K1 at *
                  generalize ((k - 1 : Nat) : Int) = K0 at *
                  generalize (k : Int) = K at *
                  simp [c0, fa, ixk, ldk, c1, c2, ck, w2, ix1, ld1, c3, c4, c5, gtt]
                · have h : okAt p k = true := by
                    have h1 : b ≤ a := by omega
                    rw [hage]; simp [hA, nxtOk, h1, c5]
                  refine .inl ⟨[Z (.ptr s.size 0), I .i64 ((k + 1 : Nat) : Int)], u, q - 1, ?_, by omega, k + 1, by omega, rfl, rfl, next h⟩
                  unfold f85_l1
                  generalize ((k + 1 : Nat) : Int) = K1 at *
                  generalize ((k - 1 : Nat) : Int) = K0 at *
                  generalize (k : Int) = K at *
                  simp [c0, fa, ixk, ldk, c1, c2, ck, w2, ix1, ld1, c3, c4, c5, w1, gtt]
    · right
      have hk' : k = 4 := by omega
      subst hk'
      refine ⟨.exit 0 [Z (.ptr s.size 0)], u, ?_, (fun v hv => by cases hv), .inl ⟨rfl, (agesOk_iff p).2 hok⟩, rfl⟩
      unfold f85_l1
      simp) 8192 4 [Z (.ptr s.size 0), I .i64 0] s1 ⟨0, rfl, rfl, rfl, fun j hj => by omega⟩ (by omega)
  subst hτ
  refine ⟨τ, ?_, g⟩
  have fa0 : aFieldAddr 0 (Z (.ptr s.size 0)) = some (Z (.ptr s.size 0)) := rfl
  have fa4 : aFieldAddr 4 (Z (.ptr s.size 0)) = some (Z (.ptr s.size 4)) := rfl
  have fa5 : aFieldAddr 5 (Z (.ptr s.size 0)) = some (Z (.ptr s.size 5)) := rfl
  have ix3 : aIndexArr 4 1 (Z (.ptr s.size 0)) (I .i64 3) = some (Z (.ptr s.size 3)) := rfl
  have ld3 := ld 3 (by omega)
  rcases hj with ⟨rfl, ha⟩ | ⟨rfl, ha⟩
  · have hm : mayP p = (decide (p.a3 = 0) && decide (1 ≤ p.c) && decide (p.c ≤ 64) && decide (1 ≤ p.n) && decide (p.n ≤ 200)) := by simp [mayP, ha]
    rw [hm]
    by_cases d1 : p.a3 = 0
    · by_cases d2 : 1 ≤ p.c
      · by_cases d3 : p.c ≤ 64
        · by_cases d4 : 1 ≤ p.n
          · simp [nw, lp, fa0, fa4, fa5, ix3, ld3, ld4, ld5, ageAt, d1, d2, d3, d4]
          · simp [nw, lp, fa0, fa4, fa5, ix3, ld3, ld4, ld5, ageAt, d1, d2, d3, d4]
        · simp [nw, lp, fa0, fa4, fa5, ix3, ld3, ld4, ld5, ageAt, d1, d2, d3]
      · simp [nw, lp, fa0, fa4, fa5, ix3, ld3, ld4, ld5, ageAt, d1, d2]
    · simp [nw, lp, fa0, fa4, fa5, ix3, ld3, ageAt, d1]
  · have hm : mayP p = false := by simp [mayP, ha]
    rw [hm]
    simp [nw, lp]
end
end Go.Proofs.YtlhbidbdmdcdeaaGreatDoor


/-
  The document's own reader of a line. No conditions but those named in each line.
-/
namespace Go.Proofs.YtlhbidbdmdcdeaaGreatDoor
open Go Go.Abs Go.Abs.F
set_option linter.unusedVariables false

def hitAt (w : Bs) (n : Int) (was : List Bool) (j : Nat) : Bool := decide (tNames.getD j [] = w) && (decide (0 ≤ n) && !was.getD j false)
def rkeep (p : Pol) (was : List Bool) (w : Bs) (n : Int) : Option (Pol × List Bool) := match (List.range 4).find? (hitAt w n was) with
  | none => none
  | some j => some (setAge p (j : Nat) n, was.set j true)
def rlineP (p : Pol) (was : List Bool) (ws : List Bs) : Option (Pol × List Bool) :=
  if ws.length = 3 ∧ ws.getD 0 [] = kKeep then rkeep p was (ws.getD 1 []) (if ws.getD 2 [] = kEver then 0 else rnumV (ws.getD 2 []))
  else if ws.length ≠ 2 ∨ rnumV (ws.getD 1 []) < 0 then none
  else if ws.getD 0 [] = kSeal ∧ was.getD 4 false = false then some ({ p with c := rnumV (ws.getD 1 []) }, was.set 4 true)
  else if ws.getD 0 [] = kSpan ∧ was.getD 5 false = false then some ({ p with n := rnumV (ws.getD 1 []) }, was.set 5 true)
  else none

def boolS (l : List Bool) : List S := l.map S.bool

def But2 (i c : Nat) (s t : St) : Prop := t.wf ∧ s.size ≤ t.size ∧ ∀ b, b < s.size → b ≠ i → b ≠ c → t.get b = s.get b

section
variable {s t : St} {x y : S} {l : Bs} {i c : Nat}

theorem find_hit {f : Nat → Bool} {k : Nat} (hk : k < 4) (h : ∀ j, j < k → f j = false) (hf : f k = true) : (List.range 4).find? f = some k := by
  have e : List.range 4 = [0, 1, 2, 3] := rfl
  rw [e]
  match k, hk with
  | 0, _ => simp [hf]
  | 1, _ => simp [hf, h 0 (by omega)]
  | 2, _ => simp [hf, h 0 (by omega), h 1 (by omega)]
  | 3, _ => simp [hf, h 0 (by omega), h 1 (by omega), h 2 (by omega)]

theorem find_none {f : Nat → Bool} (h : ∀ j, j < 4 → f j = false) : (List.range 4).find? f = none := by
  have e : List.range 4 = [0, 1, 2, 3] := rfl
  rw [e]
  simp [h 0 (by omega), h 1 (by omega), h 2 (by omega), h 3 (by omega)]

theorem two_stores {p p' : Pol} {was : List Bool} {j m : Nat} {n : Int} (wf : s.wf) (hp : s.get i = some (.cells true (cP p))) (hc : s.get c = some (.cells true (boolS was))) (hic : i ≠ c) (hj : j < 6) (hm : m < was.length)
    (hset : setRange (cP p) j [.int .i64 n] = cP p') :
    ∃ t1 t2, aStore 1 (Z (.ptr i j)) (I .i64 n) s = some (tt, t1) ∧ aStore 1 (Z (.ptr c m)) (B true) t1 = some (tt, t2) ∧ t2.get i = some (.cells true (cP p')) ∧ t2.get c = some (.cells true (boolS (was.set m true))) ∧ But2 i c s t2 := by
  have hil := wf.lt hp
  have hcl := wf.lt hc
  have e1 := aStore1_of (σ := s) (i := i) (o := j) (x := .int .i64 n) hp (by simpa [cP] using hj)
  have hc1 : (s.set i (.cells true (cP p'))).get c = some (.cells true (boolS was)) := by rw [St.get_set_ne _ _ (fun e => hic e.symm)]; exact hc
  have e2 := aStore1_of (σ := s.set i (.cells true (cP p'))) (i := c) (o := m) (x := .bool true) hc1 (by simpa [boolS] using hm)
  rw [hset] at e1
  refine ⟨_, _, e1, e2, ?_, ?_, St.wf_set (St.wf_set wf hil _) (by simpa using hcl) _, by simp, fun b hb h1 h2 => by rw [St.get_set_ne _ _ h2, St.get_set_ne _ _ h1]⟩
  · rw [St.get_set_ne _ _ hic]; exact St.get_set_same _ _ _
  · rw [St.get_set_same]
    show some (Blk.cells true ((boolS was).set m (.bool true))) = _
    rw [boolS, boolS, List.map_set]

theorem rkeep_run (d : Nat) (wf : s.wf) {p : Pol} {was : List Bool} {ws : List Bs} {n : Int} {cap : Cap} (hp : s.get i = some (.cells true (cP p))) (hc : s.get c = some (.cells true (boolS was))) (hw : was.length = 6) (hic : i ≠ c) (hx : RT s x ws) (hox : ∀ b, own x = some b → b < s.size) {w1 : Bs} (hw1 : ws[1]? = some w1) :
    ∃ j t, loops (f84_l1 (R (d + 1)) 8192) 8192 [Z (.ptr i 0), Z (.sl c 0 6 cap), Z x, I .i64 n, I .i64 0] s = some (j, t) ∧
      match rkeep p was w1 n with
      | none => j = .exit 0 [] ∧ Gr s t
      | some (p', was') => j = .ret (B true) ∧ t.get i = some (.cells true (cP p')) ∧ t.get c = some (.cells true (boolS was')) ∧ But2 i c s t := by
  have hil := wf.lt hp
  have hcl := wf.lt hc
  obtain ⟨j, τ, lp, hj⟩ := loops_inv (f := f84_l1 (R (d + 1)) 8192) (fun q v u => ∃ k : Nat, q + k = 4 ∧ v = [Z (.ptr i 0), Z (.sl c 0 6 cap), Z x, I .i64 n, I .i64 (k : Nat)] ∧ Gr s u ∧ ∀ j, j < k → hitAt w1 n was j = false)
    (fun j t => match rkeep p was w1 n with
      | none => j = .exit 0 [] ∧ Gr s t
      | some (p', was') => j = .ret (B true) ∧ t.get i = some (.cells true (cP p')) ∧ t.get c = some (.cells true (boolS was')) ∧ But2 i c s t) (by
    rintro q v u ⟨k, hk, rfl, g, hno⟩
    by_cases hk4 : k < 4
    · have c0 : ((k : Nat) : Int) < 4 := by omega
      obtain ⟨nm, u1, e1, f1⟩ := rnames_run d g.wf
      have g1 := g.trans f1.gr
      have hnk : tNames[k]? = some (tNames.getD k []) := by
        rw [List.getD_eq_getElem?_getD, List.getElem?_eq_getElem (show k < tNames.length from hk4)]
        rfl
      obtain ⟨q1, i1, l1⟩ := RT.atT f1.rd (n := ((k : Nat) : Int)) rfl hnk
      obtain ⟨q2, i2, l2⟩ := RT.atT hx (j := 1) (n := 1) rfl hw1
      have l2u : aLoad1 q2 u.get = some (Z (.str w1)) := by
        obtain ⟨q2', i2', l2'⟩ := RT.atT (hx.gr hox g) (j := 1) (n := 1) rfl hw1
        rw [i2] at i2'
        cases i2'
        exact l2'
      have l2u1 : aLoad1 q2 u1.get = some (Z (.str w1)) := by
        obtain ⟨q2', i2', l2'⟩ := RT.atT (hx.gr hox g1) (j := 1) (n := 1) rfl hw1
        rw [i2] at i2'
        cases i2'
        exact l2'
      have hcu : u1.get c = some (.cells true (boolS was)) := by rw [g1.2.2 c hcl]; exact hc
      have hpu : u1.get i = some (.cells true (cP p)) := by rw [g1.2.2 i hil]; exact hp
      have i3 : aIndexSl 1 (Z (.sl c 0 6 cap)) (I .i64 (k : Nat)) = some (Z (.ptr c k)) := by
        have := aIndexSl_int (e := 1) (b := c) (o := 0) (len := 6) (c := cap) (k := .i64) (n := ((k : Nat) : Int)) rfl (show k < 6 by omega)
        simpa using this
      have l3 : aLoad1 (Z (.ptr c k)) u1.get = some (B (was.getD k false)) := by
        refine aLoad1_of hcu ?_
        rw [boolS, List.getElem?_map, List.getD_eq_getElem?_getD, List.getElem?_eq_getElem (by omega)]
        rfl
      have wk : IntKind.i64.wrap ((k : Int) + 1) = ((k + 1 : Nat) : Int) := by rw [wrap_in _ (by omega) (by omega)]; omega
      obtain ⟨nk, hnk0⟩ : ∃ nk, nk = tNames.getD k [] := ⟨_, rfl⟩
      rw [← hnk0] at l1
      have hstay : hitAt w1 n was k = false → ∀ j, j < k + 1 → hitAt w1 n was j = false := fun h j hj => by
        by_cases e : j = k
        · rw [e]; exact h
        · exact hno j (by omega)
      cases hh : hitAt w1 n was k with
      | true =>
        right
        have hr : rkeep p was w1 n = some (setAge p (k : Nat) n, was.set k true) := by
          unfold rkeep
          rw [find_hit hk4 hno hh]
        rw [hr]
        have hh' := hh
        simp only [hitAt, Bool.and_eq_true, decide_eq_true_eq, Bool.not_eq_true'] at hh'
        obtain ⟨h1, h2, h3⟩ := hh'
        obtain ⟨t1, t2, s1, s2, r1, r2, bt⟩ := two_stores (j := k) (m := k) (n := n) g1.wf hpu hcu hic (by omega) (by omega) (set_age hk4)
        refine ⟨.ret (B true), t2, ?_, (fun v hv => by cases hv), rfl, r1, r2, bt.1, Nat.le_trans g1.2.1 bt.2.1, fun b hb hb1 hb2 => by rw [bt.2.2 b (Nat.lt_of_lt_of_le hb g1.2.1) hb1 hb2, g1.2.2 b hb]⟩
        have fa : aFieldAddr 0 (Z (.ptr i 0)) = some (Z (.ptr i 0)) := rfl
        have i4 : aIndexArr 4 1 (Z (.ptr i 0)) (I .i64 (k : Nat)) = some (Z (.ptr i k)) := by
          match k, hk4 with
          | 0, _ => rfl
          | 1, _ => rfl
          | 2, _ => rfl
          | 3, _ => rfl
        rw [← hnk0] at h1
        subst h1
        rw [h3] at l3
        unfold f84_l1
        clear hnk hnk0
        generalize ((k : Nat) : Int) = K at *
        generalize R (d + 1) = r at *
        simp [c0, e1, i1, l1, i2, l2u1, l2u, h2, i3, l3, fa, i4, s1, s2]
      | false =>
        left
        refine ⟨[Z (.ptr i 0), Z (.sl c 0 6 cap), Z x, I .i64 n, I .i64 ((k + 1 : Nat) : Int)], u1, q - 1, ?_, by omega, k + 1, by omega, rfl, g1, hstay hh⟩
        simp only [hitAt, ← hnk0] at hh
        unfold f84_l1
        generalize ((k + 1 : Nat) : Int) = K1 at *
        clear hnk hnk0
        generalize ((k : Nat) : Int) = K at *
        generalize R (d + 1) = r at *
        by_cases h1 : nk = w1
        · rw [h1] at l1
          rw [decide_eq_true h1, Bool.true_and] at hh
          by_cases h2 : 0 ≤ n
          · rw [decide_eq_true h2, Bool.true_and, Bool.not_eq_false'] at hh
            rw [hh] at l3
            simp [c0, e1, i1, l1, i2, l2u1, l2u, h2, i3, l3, wk]
          · simp [c0, e1, i1, l1, i2, l2u1, l2u, h2, wk]
        · simp [c0, e1, i1, l1, i2, l2u1, l2u, h1, wk]
    · right
      have hk' : k = 4 := by omega
      subst hk'
      refine ⟨.exit 0 [], u, ?_, (fun v hv => by cases hv), ?_⟩
      · unfold f84_l1
        simp
      · have : rkeep p was w1 n = none := by unfold rkeep; rw [find_none hno]
        rw [this]
        exact ⟨rfl, g⟩) 8192 4 [Z (.ptr i 0), Z (.sl c 0 6 cap), Z x, I .i64 n, I .i64 0] s ⟨0, rfl, rfl, Gr.refl wf, fun j hj => by omega⟩ (by omega)
  exact ⟨j, τ, lp, hj⟩
end
end Go.Proofs.YtlhbidbdmdcdeaaGreatDoor


/-
  The document's own reader of a line, whole. No conditions but those named in each line.
-/
namespace Go.Proofs.YtlhbidbdmdcdeaaGreatDoor
open Go Go.Abs Go.Abs.F
set_option linter.unusedVariables false
section
variable {s t : St} {x y : S} {l : Bs} {i c : Nat}

theorem set_c {p : Pol} {n : Int} : setRange (cP p) 4 [.int .i64 n] = cP { p with c := n } := rfl
theorem set_n {p : Pol} {n : Int} : setRange (cP p) 5 [.int .i64 n] = cP { p with n := n } := rfl

theorem rline_run (d : Nat) (wf : s.wf) {p : Pol} {was : List Bool} {ws : List Bs} {cap : Cap} (hp : s.get i = some (.cells true (cP p))) (hc : s.get c = some (.cells true (boolS was))) (hw : was.length = 6) (hic : i ≠ c) (hx : RT s x ws) (hox : ∀ b, own x = some b → b < s.size) :
    ∃ b t, R (d + 2) 84 [Z (.ptr i 0), Z (.sl c 0 6 cap), Z x] s = some (B b, t) ∧
      match rlineP p was ws with
      | none => b = false ∧ Gr s t
      | some (p', was') => b = true ∧ t.get i = some (.cells true (cP p')) ∧ t.get c = some (.cells true (boolS was')) ∧ But2 i c s t := by
  rw [f84_run]
  unfold f84
  have hll := hx.lens
  have at_ : ∀ (j : Nat) (w : Bs), ws[j]? = some w → ∃ q, aIndexSl 1 (Z x) (I .i64 (j : Nat)) = some q ∧ aLoad1 q s.get = some (Z (.str w)) := fun j w h => RT.atT hx (n := ((j : Nat) : Int)) rfl h
  have was_at : ∀ j, j < 6 → ∃ q, aIndexSl 1 (Z (.sl c 0 6 cap)) (I .i64 (j : Nat)) = some q ∧ aLoad1 q s.get = some (B (was.getD j false)) ∧ q = Z (.ptr c j) := fun j hj => by
    refine ⟨Z (.ptr c j), ?_, ?_, rfl⟩
    · have := aIndexSl_int (e := 1) (b := c) (o := 0) (len := 6) (c := cap) (k := .i64) (n := ((j : Nat) : Int)) rfl hj
      simpa using this
    · refine aLoad1_of hc ?_
      rw [boolS, List.getElem?_map, List.getD_eq_getElem?_getD, List.getElem?_eq_getElem (by omega)]
      rfl
  by_cases h3 : ws.length = 3
  · obtain ⟨w0, w1, w2, rfl⟩ : ∃ w0 w1 w2, ws = [w0, w1, w2] := by
      match ws, h3 with
      | [a, b, c], _ => exact ⟨a, b, c, rfl⟩
    have hll : aLenSl (Z x) = some (I .i64 3) := hll
    obtain ⟨q0, i0, l0⟩ := at_ 0 w0 rfl
    obtain ⟨q2, i2, l2⟩ := at_ 2 w2 rfl
    have i0 : aIndexSl 1 (Z x) (I .i64 0) = some q0 := i0
    have i2 : aIndexSl 1 (Z x) (I .i64 2) = some q2 := i2
    by_cases hk : w0 = kKeep
    · have hr : rlineP p was [w0, w1, w2] = rkeep p was w1 (if w2 = kEver then 0 else rnumV w2) := by
        unfold rlineP
        rw [if_pos ⟨rfl, hk⟩]
        rfl
      rw [hr]
      have hn := rnumber_run (l := w2) (s := s) d
      have hk' : decide (w0 = [107, 101, 101, 112]) = true := decide_eq_true hk
      have ev : decide (w2 = [101, 118, 101, 114]) = decide (w2 = kEver) := rfl
      obtain ⟨j, τ, lp, hj⟩ := rkeep_run (n := if w2 = kEver then 0 else rnumV w2) (cap := cap) (w1 := w1) d wf hp hc hw hic hx hox rfl
      have res : ∃ b, (jn (jn (loops (f84_l1 (R (d + 1)) 8192) 8192 [Z (.ptr i 0), Z (.sl c 0 6 cap), Z x, I .i64 (if w2 = kEver then 0 else rnumV w2), I .i64 0] s)
          (fun v13 s14 => some (JO.normal [], s14)) (fun i15 v13 s14 => if i15 = 0 then some (JO.normal v13, s14) else some (JO.exit i15 v13, s14)) (fun r16 s14 => some (JO.ret r16, s14)))
          (fun v17 s18 => some ((B false), s18)) (fun i19 v17 s18 => none) (fun r20 s18 => some (r20, s18)) : Option (T × St)) = some (B b, τ) ∧
          match rkeep p was w1 (if w2 = kEver then 0 else rnumV w2) with
          | none => b = false ∧ Gr s τ
          | some (p', was') => b = true ∧ τ.get i = some (.cells true (cP p')) ∧ τ.get c = some (.cells true (boolS was')) ∧ But2 i c s τ := by
        rw [lp]
        cases hrk : rkeep p was w1 (if w2 = kEver then 0 else rnumV w2) with
        | none =>
          rw [hrk] at hj
          obtain ⟨rfl, g⟩ := hj
          exact ⟨false, by simp, rfl, g⟩
        | some pw =>
          rw [hrk] at hj
          obtain ⟨rfl, r1, r2, r3⟩ := hj
          exact ⟨true, by simp, rfl, r1, r2, r3⟩
      obtain ⟨b, e, hb⟩ := res
      refine ⟨b, τ, ?_, hb⟩
      by_cases he : w2 = kEver
      · rw [if_pos he] at e
        have he' : decide (w2 = [101, 118, 101, 114]) = true := decide_eq_true he
        generalize R (d + 1) = r at *
        simp only [hll, bd_some, eql_int, decide_true, gd_bool, beq_self_eq_true, gT_true, i0, l0, eql_str, hk', aPick_bool_true, br_true, i2, l2, hn, bd2_some, he', jn_normal, List.getD_cons_zero, List.getD_cons_succ]
        exact e
      · rw [if_neg he] at e
        have he' : decide (w2 = [101, 118, 101, 114]) = false := decide_eq_false he
        generalize R (d + 1) = r at *
        simp only [hll, bd_some, eql_int, decide_true, gd_bool, beq_self_eq_true, gT_true, i0, l0, eql_str, hk', aPick_bool_true, br_true, br_false, i2, l2, hn, bd2_some, he', jn_normal, List.getD_cons_zero, List.getD_cons_succ]
        exact e
    · have hr : rlineP p was [w0, w1, w2] = none := by
        unfold rlineP
        rw [if_neg (fun h => hk h.2), if_pos (.inl (by simp))]
      rw [hr]
      have hk' : decide (w0 = [107, 101, 101, 112]) = false := decide_eq_false hk
      refine ⟨false, s, ?_, rfl, Gr.refl wf⟩
      generalize R (d + 1) = r at *
      simp [hll, i0, l0, hk', gtt]
  · by_cases h2 : ws.length = 2
    · obtain ⟨w0, w1, rfl⟩ : ∃ w0 w1, ws = [w0, w1] := by
        match ws, h2 with
        | [a, b], _ => exact ⟨a, b, rfl⟩
      have hll : aLenSl (Z x) = some (I .i64 2) := hll
      obtain ⟨q0, i0, l0⟩ := at_ 0 w0 rfl
      obtain ⟨q1, i1, l1⟩ := at_ 1 w1 rfl
      have i0 : aIndexSl 1 (Z x) (I .i64 0) = some q0 := i0
      have i1 : aIndexSl 1 (Z x) (I .i64 1) = some q1 := i1
      have hn := rnumber_run (l := w1) (s := s) d
      have hr : rlineP p was [w0, w1] = if rnumV w1 < 0 then none else if w0 = kSeal ∧ was.getD 4 false = false then some ({ p with c := rnumV w1 }, was.set 4 true) else if w0 = kSpan ∧ was.getD 5 false = false then some ({ p with n := rnumV w1 }, was.set 5 true) else none := by
        unfold rlineP
        rw [if_neg (fun h => by simp at h)]
        by_cases hneg : rnumV w1 < 0
        · rw [if_pos (.inr hneg), if_pos hneg]
        · rw [if_neg (fun h => h.elim (fun h => h rfl) hneg), if_neg hneg]
          rfl
      rw [hr]
      by_cases hneg : rnumV w1 < 0
      · rw [if_pos hneg]
        refine ⟨false, s, ?_, rfl, Gr.refl wf⟩
        generalize rnumV w1 = V at *
        generalize R (d + 1) = r at *
        simp [hll, i1, l1, hn, hneg]
      · rw [if_neg hneg]
        obtain ⟨q4, i4, l4, hq4⟩ := was_at 4 (by omega)
        obtain ⟨q5, i5, l5, hq5⟩ := was_at 5 (by omega)
        subst hq4 hq5
        have i4 : aIndexSl 1 (Z (.sl c 0 6 cap)) (I .i64 4) = some (Z (.ptr c 4)) := i4
        have i5 : aIndexSl 1 (Z (.sl c 0 6 cap)) (I .i64 5) = some (Z (.ptr c 5)) := i5
        obtain ⟨a1, a2, sa1, sa2, ra1, ra2, ba⟩ := two_stores (j := 4) (m := 4) (n := rnumV w1) wf hp hc hic (by omega) (by omega) set_c
        obtain ⟨b1, b2, sb1, sb2, rb1, rb2, bb⟩ := two_stores (j := 5) (m := 5) (n := rnumV w1) wf hp hc hic (by omega) (by omega) set_n
        have fa4 : aFieldAddr 4 (Z (.ptr i 0)) = some (Z (.ptr i 4)) := rfl
        have fa5 : aFieldAddr 5 (Z (.ptr i 0)) = some (Z (.ptr i 5)) := rfl
        obtain ⟨x4, hx4⟩ : ∃ x4, x4 = was.getD 4 false := ⟨_, rfl⟩
        obtain ⟨x5, hx5⟩ : ∃ x5, x5 = was.getD 5 false := ⟨_, rfl⟩
        rw [← hx4] at l4 ⊢
        rw [← hx5] at l5 ⊢
        have ks : decide (w0 = [115, 101, 97, 108]) = decide (w0 = kSeal) := rfl
        have kp : decide (w0 = [115, 112, 97, 110]) = decide (w0 = kSpan) := rfl
        have hsp : w0 = kSeal → ¬ w0 = kSpan := fun h h' => by rw [h] at h'; exact absurd h' (by decide)
        generalize rnumV w1 = V at *
        generalize R (d + 1) = r at *
        by_cases hs : w0 = kSeal
        · rw [decide_eq_true hs] at ks
          rw [decide_eq_false (hsp hs)] at kp
          cases x4 with
          | false =>
            rw [if_pos ⟨hs, rfl⟩]
            exact ⟨true, a2, by simp [hll, i1, l1, hn, hneg, i0, l0, ks, i4, l4, fa4, sa1, sa2], rfl, ra1, ra2, ba⟩
          | true =>
            rw [if_neg (fun h => by cases h.2), if_neg (fun h => hsp hs h.1)]
            exact ⟨false, s, by simp [hll, i1, l1, hn, hneg, i0, l0, ks, i4, l4, kp, gtt], rfl, Gr.refl wf⟩
        · rw [decide_eq_false hs] at ks
          rw [if_neg (fun h => hs h.1)]
          by_cases hp' : w0 = kSpan
          · rw [decide_eq_true hp'] at kp
            cases x5 with
            | false =>
              rw [if_pos ⟨hp', rfl⟩]
              exact ⟨true, b2, by simp [hll, i1, l1, hn, hneg, i0, l0, ks, kp, i5, l5, fa5, sb1, sb2], rfl, rb1, rb2, bb⟩
            | true =>
              rw [if_neg (fun h => by cases h.2)]
              exact ⟨false, s, by simp [hll, i1, l1, hn, hneg, i0, l0, ks, kp, i5, l5], rfl, Gr.refl wf⟩
          · rw [decide_eq_false hp'] at kp
            rw [if_neg (fun h => hp' h.1)]
            exact ⟨false, s, by simp [hll, i1, l1, hn, hneg, i0, l0, ks, kp], rfl, Gr.refl wf⟩
    · have hr : rlineP p was ws = none := by
        unfold rlineP
        rw [if_neg (fun h => h3 h.1), if_pos (.inl h2)]
      rw [hr]
      have c3 : ¬ ((ws.length : Nat) : Int) = 3 := by omega
      have c2 : ¬ ((ws.length : Nat) : Int) = 2 := by omega
      refine ⟨false, s, ?_, rfl, Gr.refl wf⟩
      generalize ((ws.length : Nat) : Int) = L at *
      generalize R (d + 1) = r at *
      simp [hll, c3, c2, gtt]
end
end Go.Proofs.YtlhbidbdmdcdeaaGreatDoor


/-
  The document's own reader of policies, whole. No conditions but those named in each line.
-/
namespace Go.Proofs.YtlhbidbdmdcdeaaGreatDoor
open Go Go.Abs Go.Abs.F
set_option linter.unusedVariables false

def rgo : Pol → List Bool → Nat → List Bs → Pol × Int × Int
  | p, _, _, [] => if mayP p then (p, 0, 0) else (pol0, 5, 0)
  | p, was, k, x :: r => if wordsOf x = [] then rgo p was (k + 1) r else
    match rlineP p was (wordsOf x) with
    | none => (pol0, 4, ((k + 1 : Nat) : Int))
    | some (p', was') => rgo p' was' (k + 1) r

def linesR : Bs → Bs → List Bs
  | [], cur => [cur]
  | b :: r, cur => if b = 10 then cur :: linesR r [] else linesR r (cur ++ [b])

theorem linesR_eq : ∀ (x cur : Bs), linesR x cur = (match splitB 10 x with | [] => [] | h :: t => (cur ++ h) :: t)
  | [], cur => by simp [linesR, splitB]
  | b :: r, cur => by
    unfold linesR
    have hne : splitB 10 r ≠ [] := fun h => by have := splitB_len 10 r; rw [h] at this; simp at this
    rw [splitB_cons]
    by_cases h : b = 10
    · rw [if_pos h, linesR_eq r []]
      have : Nat.beq b.toNat (10 : UInt8).toNat = true := beq_byte.2 h
      rw [this]
      cases hs : splitB 10 r with
      | nil => exact absurd hs hne
      | cons a t => simp
    · have : Nat.beq b.toNat (10 : UInt8).toNat = false := by
        rw [Bool.eq_false_iff]
        exact fun e => h (beq_byte.1 e)
      rw [if_neg h, this, linesR_eq r (cur ++ [b])]
      cases hs : splitB 10 r with
      | nil => exact absurd hs hne
      | cons a t => simp [consHd]

theorem linesR_of (x : Bs) : linesR x [] = splitB 10 x := by
  rw [linesR_eq]
  cases hs : splitB 10 x with
  | nil => rfl
  | cons a t => simp

def rparseP (l : Bs) : Pol × Int × Int := rgo polD (List.replicate 6 false) 0 (splitB 10 l)
abbrev resP (q : Pol × Int × Int) : T := .tup [.agg (cP q.1), .s (.int .i64 q.2.1), .s (.int .i64 q.2.2)]

theorem rlineP_len {p p' : Pol} {was was' : List Bool} {ws : List Bs} (h : rlineP p was ws = some (p', was')) : was'.length = was.length := by
  unfold rlineP rkeep at h
  split at h
  · split at h
    · cases h
    · cases h; simp
  · split at h
    · cases h
    · split at h
      · cases h; simp
      · split at h
        · cases h; simp
        · cases h

section
variable {s t : St} {x y : S} {l : Bs} {i c r0 : Nat}

set_option maxHeartbeats 1000000 in
theorem rparse_run (d : Nat) (wf : s.wf) (hl : l.length ≤ 8000) : ∃ t, R (d + 3) 64 [Z (.str l)] s = some (resP (rparseP l), t) ∧ Gr s t := by
  rw [f64_run]
  unfold f64
  have hll : aLenStr (Z (.str l)) = some (I .i64 ((l.length : Nat) : Int)) := rfl
  obtain ⟨s1, hs1⟩ : ∃ s1, s1 = s.push (.cells true (cP pol0)) := ⟨_, rfl⟩
  have nw1 : aNew s (nCells [.int .i64 0, .int .i64 0, .int .i64 0, .int .i64 0, .int .i64 0, .int .i64 0]) = some (Z (.ptr s.size 0), s1) := by rw [hs1]; rfl
  have g1 : Gr s s1 := by rw [hs1]; exact Gr.push wf _
  have b1 : s1.get s.size = some (.cells true (cP pol0)) := by rw [hs1]; exact St.get_push_same _ _
  have z1 : s1.size = s.size + 1 := by rw [hs1]; simp
  obtain ⟨s2, e2, g2⟩ := rdefault_run (d + 1) g1.wf
  obtain ⟨s3, hs3⟩ : ∃ s3, s3 = s2.push (.cells true (cP pol0)) := ⟨_, rfl⟩
  have nw3 : aNew s2 (nCells [.int .i64 0, .int .i64 0, .int .i64 0, .int .i64 0, .int .i64 0, .int .i64 0]) = some (Z (.ptr s2.size 0), s3) := by rw [hs3]; rfl
  have b3 : s3.get s2.size = some (.cells true (cP pol0)) := by rw [hs3]; exact St.get_push_same _ _
  have g3 : Gr s2 s3 := by rw [hs3]; exact Gr.push g2.wf _
  have z3 : s3.size = s2.size + 1 := by rw [hs3]; simp
  obtain ⟨s4, hs4⟩ : ∃ s4, s4 = s3.set s2.size (.cells true (cP polD)) := ⟨_, rfl⟩
  have st4 := store6 (p := polD) b3 rfl
  rw [← hs4] at st4
  have b4 : s4.get s2.size = some (.cells true (cP polD)) := by rw [hs4]; exact St.get_set_same _ _ _
  have z4 : s4.size = s2.size + 1 := by rw [hs4]; simp [z3]
  have wf4 : s4.wf := by rw [hs4]; exact St.wf_set g3.wf (by omega) _
  have o4 : ∀ b, b < s2.size → s4.get b = s2.get b := fun b hb => by rw [hs4, St.get_set_ne _ _ (by omega)]; exact g3.2.2 b hb
  obtain ⟨s5, hs5⟩ : ∃ s5, s5 = s4.push (.cells true (boolS (List.replicate 6 false))) := ⟨_, rfl⟩
  have nw5 : aNew s4 (nMake 1 1 [.bool false] (I .i64 6) (I .i64 6)) = some (Z (.sl s4.size 0 6 (.known 6)), s5) := by rw [hs5]; rfl
  have g5 : Gr s4 s5 := by rw [hs5]; exact Gr.push wf4 _
  have hz2 := g2.2.1
  have i2 : s2.size ≠ s4.size := by omega
  have b5i : s5.get s2.size = some (.cells true (cP polD)) := by rw [g5.2.2 _ (by omega)]; exact b4
  have b5c : s5.get s4.size = some (.cells true (boolS (List.replicate 6 false))) := by rw [hs5]; exact St.get_push_same _ _
  have b5r : s5.get s.size = some (.cells true (cP pol0)) := by rw [g5.2.2 _ (by omega), o4 _ (by omega), g2.2.2 _ (by omega)]; exact b1
  have z5 : s5.size = s4.size + 1 := by rw [hs5]; simp
  have old5 : ∀ b, b < s.size → s5.get b = s.get b := fun b hb => by rw [g5.2.2 _ (by omega), o4 _ (by omega), g2.2.2 _ (by omega), g1.2.2 _ hb]
  obtain ⟨I0, hI⟩ : ∃ I0, I0 = s2.size := ⟨_, rfl⟩
  obtain ⟨C0, hC⟩ : ∃ C0, C0 = s4.size := ⟨_, rfl⟩
  obtain ⟨R0, hR⟩ : ∃ R0, R0 = s.size := ⟨_, rfl⟩
  have hIC : I0 ≠ C0 := by omega
  have hRI : R0 ≠ I0 := by omega
  have hRC : R0 ≠ C0 := by omega
  rw [← hI] at nw3 st4 b5i
  rw [← hC] at nw5 b5c
  rw [← hR] at nw1 b5r
  have res6 : ∀ (u : St) (q : Pol), u.get R0 = some (.cells true (cP pol0)) → ∃ u', aStore 6 (Z (.ptr R0 0)) (AP q) u = some (tt, u') ∧ aLoadN 6 (Z (.ptr R0 0)) u'.get = some (AP q) ∧ (u.wf → u'.wf) ∧ u'.size = u.size ∧ ∀ b, b ≠ R0 → u'.get b = u.get b := fun u q h =>
    ⟨_, store6 h rfl, load6 (St.get_set_same _ _ _), fun w => St.wf_set w (w.lt h) _, by simp, fun b hb => St.get_set_ne _ _ hb⟩
  obtain ⟨j, τ, lp, hj⟩ := loops_inv (f := f64_l1 (R (d + 2)) 8192) (fun q v u => ∃ (k a n : Nat) (p : Pol) (was : List Bool), q + k = l.length + 1 ∧ a ≤ k ∧ n ≤ k ∧ v = [Z (.str l), Z (.ptr R0 0), Z (.ptr I0 0), Z (.sl C0 0 6 (.known 6)), I .i64 (a : Nat), I .i64 (n : Nat), I .i64 (k : Nat)] ∧
      u.wf ∧ s5.size ≤ u.size ∧ (∀ b, b < s.size → u.get b = s.get b) ∧ u.get R0 = some (.cells true (cP pol0)) ∧ u.get I0 = some (.cells true (cP p)) ∧ u.get C0 = some (.cells true (boolS was)) ∧ was.length = 6 ∧
      rgo p was n (if k ≤ l.length then linesR (l.drop k) ((l.take k).drop a) else []) = rparseP l)
    (fun j u => u.wf ∧ s5.size ≤ u.size ∧ (∀ b, b < s.size → u.get b = s.get b) ∧ (j = .ret (resP (rparseP l)) ∨ ∃ p was n, j = .exit 0 [Z (.ptr R0 0), Z (.ptr I0 0)] ∧ u.get R0 = some (.cells true (cP pol0)) ∧ u.get I0 = some (.cells true (cP p)) ∧ rgo p was n [] = rparseP l)) (by
    rintro q v u ⟨k, a, n, p, was, hq, hak, hnk, rfl, wfu, hsz, old, bR, bI, bC, hwl, hgo⟩
    have w1 : IntKind.i64.wrap ((k : Int) + 1) = ((k + 1 : Nat) : Int) := by rw [wrap_in _ (by omega) (by omega)]; omega
    have w2 : IntKind.i64.wrap ((n : Int) + 1) = ((n + 1 : Nat) : Int) := by rw [wrap_in _ (by omega) (by omega)]; omega
    by_cases hkl : k ≤ l.length
    · have c0 : ((k : Nat) : Int) ≤ ((l.length : Nat) : Int) := by omega
      rw [if_pos hkl] at hgo
      have line : ∀ rest : List Bs, rgo p was n ((l.take k).drop a :: rest) = rparseP l → rest = (if k + 1 ≤ l.length then linesR (l.drop (k + 1)) ((l.take (k + 1)).drop (k + 1)) else []) →
          (k = l.length ∨ (k < l.length ∧ aAtStr (Z (.str l)) (I .i64 (k : Nat)) = some (I .u8 10))) →
          (∃ v' s' k', f64_l1 (R (d + 2)) 8192 [Z (.str l), Z (.ptr R0 0), Z (.ptr I0 0), Z (.sl C0 0 6 (.known 6)), I .i64 (a : Nat), I .i64 (n : Nat), I .i64 (k : Nat)] u = some (.normal v', s') ∧ q = k' + 1 ∧
            ∃ (k a n : Nat) (p : Pol) (was : List Bool), k' + k = l.length + 1 ∧ a ≤ k ∧ n ≤ k ∧ v' = [Z (.str l), Z (.ptr R0 0), Z (.ptr I0 0), Z (.sl C0 0 6 (.known 6)), I .i64 (a : Nat), I .i64 (n : Nat), I .i64 (k : Nat)] ∧
              s'.wf ∧ s5.size ≤ s'.size ∧ (∀ b, b < s.size → s'.get b = s.get b) ∧ s'.get R0 = some (.cells true (cP pol0)) ∧ s'.get I0 = some (.cells true (cP p)) ∧ s'.get C0 = some (.cells true (boolS was)) ∧ was.length = 6 ∧
              rgo p was n (if k ≤ l.length then linesR (l.drop k) ((l.take k).drop a) else []) = rparseP l) ∨
          ∃ j s', f64_l1 (R (d + 2)) 8192 [Z (.str l), Z (.ptr R0 0), Z (.ptr I0 0), Z (.sl C0 0 6 (.known 6)), I .i64 (a : Nat), I .i64 (n : Nat), I .i64 (k : Nat)] u = some (j, s') ∧ (∀ v, j ≠ .normal v) ∧
            (s'.wf ∧ s5.size ≤ s'.size ∧ (∀ b, b < s.size → s'.get b = s.get b) ∧ (j = .ret (resP (rparseP l)) ∨ ∃ p was n, j = .exit 0 [Z (.ptr R0 0), Z (.ptr I0 0)] ∧ s'.get R0 = some (.cells true (cP pol0)) ∧ s'.get I0 = some (.cells true (cP p)) ∧ rgo p was n [] = rparseP l)) := fun rest h1 hrest hch => by
        have pc := piece_str hak hkl
        obtain ⟨o, u1, e1, f1⟩ := rwords_run (l := (l.take k).drop a) (d + 1) wfu (by rw [List.length_drop, List.length_take]; omega)
        have hIlt := wfu.lt bI
        have hClt := wfu.lt bC
        have hRlt := wfu.lt bR
        have lo := f1.rd.lens
        have hch' : ¬ ((k : Nat) : Int) < ((l.length : Nat) : Int) ∨ (((k : Nat) : Int) < ((l.length : Nat) : Int) ∧ aAtStr (Z (.str l)) (I .i64 (k : Nat)) = some (I .u8 10)) := by
          rcases hch with h | ⟨h, ha⟩
          · exact .inl (by omega)
          · exact .inr ⟨by omega, ha⟩
        have hkk : q = q - 1 + 1 := by omega
        by_cases hws : wordsOf ((l.take k).drop a) = []
        · have h2 : rgo p was (n + 1) rest = rparseP l := by rw [← h1, rgo, if_pos hws]
          have lz : aLenSl (Z o) = some (I .i64 0) := by rw [lo, hws]; rfl
          left
          refine ⟨[Z (.str l), Z (.ptr R0 0), Z (.ptr I0 0), Z (.sl C0 0 6 (.known 6)), I .i64 ((k + 1 : Nat) : Int), I .i64 ((n + 1 : Nat) : Int), I .i64 ((k + 1 : Nat) : Int)], u1, q - 1, ?_, hkk, k + 1, k + 1, n + 1, p, was, by omega, Nat.le_refl _, by omega, rfl, f1.gr.wf, Nat.le_trans hsz f1.gr.2.1,
            (fun b hb => by rw [f1.gr.2.2 b (by omega)]; exact old b hb), by rw [f1.gr.2.2 _ hRlt]; exact bR, by rw [f1.gr.2.2 _ hIlt]; exact bI, by rw [f1.gr.2.2 _ hClt]; exact bC, hwl, by rw [← hrest]; exact h2⟩
          unfold f64_l1
          clear hch h1 hgo
          generalize ((k + 1 : Nat) : Int) = K1 at *
          generalize ((n + 1 : Nat) : Int) = N1 at *
          generalize ((l.length : Nat) : Int) = L at *
          generalize ((k : Nat) : Int) = K at *
          generalize ((n : Nat) : Int) = NN at *
          generalize ((a : Nat) : Int) = A at *
          simp only [Nat.add_assoc, Nat.reduceAdd] at e1
          generalize R (d + 2) = r at *
          rcases hch' with hc | ⟨hc, ha⟩
          · simp [hll, c0, hc, gtt, w2, pc, e1, lz, w1]
          · simp [hll, c0, hc, ha, w2, pc, e1, lz, w1]
        · have hlp : (0 : Int) < (((wordsOf ((l.take k).drop a)).length : Nat) : Int) := by
            have := List.length_pos_iff.2 hws
            omega
          obtain ⟨b, u2, e2', hm⟩ := rline_run (cap := .known 6) (i := I0) (c := C0) d f1.gr.wf (p := p) (was := was) (by rw [f1.gr.2.2 _ hIlt]; exact bI) (by rw [f1.gr.2.2 _ hClt]; exact bC) hwl hIC f1.rd (fun b hb => (f1.new b hb).2)
          cases hr : rlineP p was (wordsOf ((l.take k).drop a)) with
          | none =>
            rw [hr] at hm
            obtain ⟨rfl, g2'⟩ := hm
            have h2 : rparseP l = (pol0, 4, ((n + 1 : Nat) : Int)) := by rw [← h1, rgo, if_neg hws, hr]
            have gu := f1.gr.trans g2'
            obtain ⟨u3, s3', l3, wf3, z3', o3⟩ := res6 u2 pol0 (by rw [gu.2.2 _ hRlt]; exact bR)
            right
            refine ⟨.ret (resP (rparseP l)), u3, ?_, (fun v hv => by cases hv), wf3 gu.wf, by rw [z3']; exact Nat.le_trans hsz gu.2.1, (fun b hb => by rw [o3 b (by omega), gu.2.2 b (by omega)]; exact old b hb), .inl rfl⟩
            rw [h2]
            unfold f64_l1
            clear hch h1 hgo hrest
            generalize (((wordsOf ((l.take k).drop a)).length : Nat) : Int) = WL at *
            generalize ((k + 1 : Nat) : Int) = K1 at *
            generalize ((n + 1 : Nat) : Int) = N1 at *
            generalize ((l.length : Nat) : Int) = L at *
            generalize ((k : Nat) : Int) = K at *
            generalize ((n : Nat) : Int) = NN at *
            generalize ((a : Nat) : Int) = A at *
            simp only [Nat.add_assoc, Nat.reduceAdd] at e1
            have ag := agg6
            generalize R (d + 2) = r at *
            rcases hch' with hc | ⟨hc, ha⟩
            · simp [hll, c0, hc, gtt, w2, pc, e1, lo, hlp, e2', ag, s3', l3, rC, rT, retT, allV]
            · simp [hll, c0, hc, ha, w2, pc, e1, lo, hlp, e2', ag, s3', l3, rC, rT, retT, allV]
          | some pw =>
            obtain ⟨p', was'⟩ := pw
            rw [hr] at hm
            obtain ⟨rfl, m1, m2, m3⟩ := hm
            have h2 : rgo p' was' (n + 1) rest = rparseP l := by rw [← h1, rgo, if_neg hws, hr]
            left
            refine ⟨[Z (.str l), Z (.ptr R0 0), Z (.ptr I0 0), Z (.sl C0 0 6 (.known 6)), I .i64 ((k + 1 : Nat) : Int), I .i64 ((n + 1 : Nat) : Int), I .i64 ((k + 1 : Nat) : Int)], u2, q - 1, ?_, hkk, k + 1, k + 1, n + 1, p', was', by omega, Nat.le_refl _, by omega, rfl, m3.1, Nat.le_trans hsz (Nat.le_trans f1.gr.2.1 m3.2.1),
              (fun b hb => by rw [m3.2.2 b (Nat.lt_of_lt_of_le (show b < u.size by omega) f1.gr.2.1) (by omega) (by omega), f1.gr.2.2 b (by omega)]; exact old b hb), by rw [m3.2.2 _ (Nat.lt_of_lt_of_le hRlt f1.gr.2.1) hRI hRC, f1.gr.2.2 _ hRlt]; exact bR, m1, m2, by rw [rlineP_len hr]; exact hwl, by rw [← hrest]; exact h2⟩
            unfold f64_l1
            clear hch h1 hgo hrest
            generalize (((wordsOf ((l.take k).drop a)).length : Nat) : Int) = WL at *
            generalize ((k + 1 : Nat) : Int) = K1 at *
            generalize ((n + 1 : Nat) : Int) = N1 at *
            generalize ((l.length : Nat) : Int) = L at *
            generalize ((k : Nat) : Int) = K at *
            generalize ((n : Nat) : Int) = NN at *
            generalize ((a : Nat) : Int) = A at *
            simp only [Nat.add_assoc, Nat.reduceAdd] at e1
            generalize R (d + 2) = r at *
            rcases hch' with hc | ⟨hc, ha⟩
            · simp [hll, c0, hc, gtt, w2, pc, e1, lo, hlp, e2', w1]
            · simp [hll, c0, hc, ha, w2, pc, e1, lo, hlp, e2', w1]
      by_cases hend : k = l.length
      · have hd : l.drop k = [] := by rw [List.drop_eq_nil_iff]; omega
        rw [hd, linesR] at hgo
        exact line [] hgo (by rw [if_neg (by omega)]) (.inl hend)
      · have hk : k < l.length := by omega
        have hd : l.drop k = l[k] :: l.drop (k + 1) := List.drop_eq_getElem_cons hk
        have ac := at_str (bs := l) (n := ((k : Nat) : Int)) rfl (List.getElem?_eq_getElem hk)
        rw [hd] at hgo
        unfold linesR at hgo
        by_cases h10 : l[k] = 10
        · rw [if_pos h10] at hgo
          rw [h10] at ac
          refine line _ hgo ?_ (.inr ⟨hk, ac⟩)
          rw [if_pos (by omega)]
          have hnil : (l.take (k + 1)).drop (k + 1) = [] := by
            rw [List.drop_eq_nil_iff, List.length_take]
            omega
          rw [hnil]
        · rw [if_neg h10] at hgo
          have tk : (l.take (k + 1)).drop a = (l.take k).drop a ++ [l[k]] := by
            rw [List.take_add_one, List.getElem?_eq_getElem hk, Option.toList_some, List.drop_append_of_le_length (by rw [List.length_take]; omega)]
          have hne : ¬ ((l[k].toNat : Nat) : Int) = 10 := fun h => h10 (UInt8.toNat.inj (by show l[k].toNat = 10; omega))
          have c2 : ((k : Nat) : Int) < ((l.length : Nat) : Int) := by omega
          left
          refine ⟨[Z (.str l), Z (.ptr R0 0), Z (.ptr I0 0), Z (.sl C0 0 6 (.known 6)), I .i64 (a : Nat), I .i64 (n : Nat), I .i64 ((k + 1 : Nat) : Int)], u, q - 1, ?_, by omega, k + 1, a, n, p, was, by omega, by omega, by omega, rfl, wfu, hsz, old, bR, bI, bC, hwl, by rw [if_pos (by omega), tk]; exact hgo⟩
          unfold f64_l1
          clear line
          generalize ((l[k].toNat : Nat) : Int) = CH at *
          generalize ((k + 1 : Nat) : Int) = K1 at *
          generalize ((l.length : Nat) : Int) = L at *
          generalize ((k : Nat) : Int) = K at *
          simp [hll, c0, c2, ac, hne, w1]
    · have c0 : ¬ ((k : Nat) : Int) ≤ ((l.length : Nat) : Int) := by omega
      rw [if_neg hkl] at hgo
      right
      refine ⟨.exit 0 [Z (.ptr R0 0), Z (.ptr I0 0)], u, ?_, (fun v hv => by cases hv), wfu, hsz, old, .inr ⟨p, was, n, rfl, bR, bI, hgo⟩⟩
      unfold f64_l1
      generalize ((l.length : Nat) : Int) = L at *
      generalize ((k : Nat) : Int) = K at *
      simp [hll, c0]) 8192 (l.length + 1) [Z (.str l), Z (.ptr R0 0), Z (.ptr I0 0), Z (.sl C0 0 6 (.known 6)), I .i64 0, I .i64 0, I .i64 0] s5 ⟨0, 0, 0, polD, List.replicate 6 false, by omega, Nat.le_refl _, Nat.le_refl _, rfl, g5.wf, Nat.le_refl _, old5, b5r, b5i, b5c, by simp, by
        rw [if_pos (Nat.zero_le _)]
        show rgo polD _ 0 (linesR l []) = _
        rw [linesR_of]
        rfl⟩ (by omega)
  obtain ⟨wft, szt, oldt, hj⟩ := hj
  have fin : ∀ u' : St, u'.wf → u'.size = τ.size → (∀ b, b ≠ R0 → u'.get b = τ.get b) → Gr s u' := fun u' w z o => ⟨w, by omega, fun b hb => by rw [o b (by omega)]; exact oldt b hb⟩
  simp only [Nat.add_assoc, Nat.reduceAdd] at e2
  rcases hj with rfl | ⟨p, was, n, rfl, bR, bI, hgo⟩
  · refine ⟨τ, ?_, wft, by omega, oldt⟩
    generalize R (d + 2) = r at *
    simp [nw1, e2, nw3, st4, nw5, lp]
  · have ld := load6 bI
    obtain ⟨u6, e6, g6⟩ := rmay_run (d + 1) wft p
    simp only [Nat.add_assoc, Nat.reduceAdd] at e6
    have hR6 : u6.get R0 = some (.cells true (cP pol0)) := by rw [g6.2.2 _ (wft.lt bR)]; exact bR
    have hI6 : u6.get I0 = some (.cells true (cP p)) := by rw [g6.2.2 _ (wft.lt bI)]; exact bI
    have ld6 := load6 hI6
    have gs6 : Gr s u6 := ⟨g6.wf, by have := g6.2.1; omega, fun b hb => by rw [g6.2.2 b (by omega)]; exact oldt b hb⟩
    cases hm : mayP p with
    | true =>
      have hq : rparseP l = (p, 0, 0) := by rw [← hgo, rgo, if_pos hm]
      rw [hm] at e6
      obtain ⟨u7, st7, ld7, w7, z7, o7⟩ := res6 u6 p hR6
      rw [hq]
      refine ⟨u7, ?_, w7 gs6.wf, by rw [z7]; exact gs6.2.1, fun b hb => by rw [o7 b (by omega)]; exact gs6.2.2 b hb⟩
      generalize R (d + 2) = r at *
      simp [nw1, e2, nw3, st4, nw5, lp, ld, e6, ld6, st7, ld7, rC, rT, retT, allV]
    | false =>
      have hq : rparseP l = (pol0, 5, 0) := by rw [← hgo, rgo, if_neg (by rw [hm]; decide)]
      rw [hm] at e6
      obtain ⟨u7, st7, ld7, w7, z7, o7⟩ := res6 u6 pol0 hR6
      rw [hq]
      have ag := agg6
      refine ⟨u7, ?_, w7 gs6.wf, by rw [z7]; exact gs6.2.1, fun b hb => by rw [o7 b (by omega)]; exact gs6.2.2 b hb⟩
      generalize R (d + 2) = r at *
      simp [nw1, e2, nw3, st4, nw5, lp, ld, e6, ag, st7, ld7, rC, rT, retT, allV]
end
end Go.Proofs.YtlhbidbdmdcdeaaGreatDoor


/-
  The document's reader of policies and the program's are one. No conditions but those named in each line.
-/
namespace Go.Proofs.YtlhbidbdmdcdeaaGreatDoor
open Go Go.Abs Go.Abs.F
set_option linter.unusedVariables false

def keyOf (j : Nat) : Bs := if j < 4 then joinB [32] [kKeep, tNames.getD j []] else if j = 4 then kSeal else kSpan
theorem keyOf_inj : ∀ j, j < 6 → ∀ k, k < 6 → keyOf j = keyOf k → j = k := by decide +kernel
theorem tNames_inj : ∀ j, j < 4 → ∀ k, k < 4 → tNames.getD j [] = tNames.getD k [] → j = k := by decide +kernel

structure Seen (was : List Bool) (seen : List Bs) : Prop where
  len : was.length = 6
  at_ : ∀ j, j < 6 → was.getD j false = decide (keyOf j ∈ seen)

theorem Seen.add {was : List Bool} {seen : List Bs} (h : Seen was seen) {j : Nat} (hj : j < 6) : Seen (was.set j true) (seen ++ [keyOf j]) := by
  refine ⟨by rw [List.length_set]; exact h.len, fun k hk => ?_⟩
  have hl := h.len
  by_cases e : k = j
  · subst e
    rw [List.getD_eq_getElem?_getD, List.getElem?_set_self (by omega), decide_eq_true (by simp)]
    rfl
  · rw [List.getD_eq_getElem?_getD, List.getElem?_set_ne (fun h => e h.symm), ← List.getD_eq_getElem?_getD, h.at_ k hk]
    refine decide_eq_decide.2 ?_
    rw [List.mem_append, List.mem_singleton]
    exact ⟨.inl, fun h => h.elim id fun h => absurd (keyOf_inj k hk j hj h) e⟩

theorem rnum_ok {w : Bs} : (0 ≤ rnumV w ↔ numOk w = true) ∧ (numOk w = true → rnumV w = (numV w : Nat)) := by
  unfold rnumV
  cases h : numOk w with
  | true => simp
  | false => simp

theorem rnum_neg {w : Bs} : (rnumV w < 0 ↔ numOk w = false) := by
  unfold rnumV
  cases h : numOk w with
  | true => simp
  | false => simp

theorem age_n (w : Bs) : (0 ≤ (if w = kEver then 0 else rnumV w) ↔ ¬ (numOk w = false ∧ w ≠ kEver)) ∧ (¬ (numOk w = false ∧ w ≠ kEver) → (if w = kEver then 0 else rnumV w) = ((numV w : Nat) : Int)) := by
  have he : numOk kEver = false := by decide
  by_cases h : w = kEver
  · subst h
    rw [if_pos rfl]
    refine ⟨by simp, fun _ => ?_⟩
    unfold numV
    rw [he]
    rfl
  · rw [if_neg h]
    have := rnum_ok (w := w)
    refine ⟨?_, fun hn => this.2 ?_⟩
    · rw [this.1]
      cases hh : numOk w <;> simp [h]
    · cases hh : numOk w with
      | true => rfl
      | false => exact absurd ⟨hh, h⟩ hn

theorem line_eq {p : Pol} {was : List Bool} {seen : List Bs} {ws : List Bs} (h : Seen was seen) :
    match rlineP p was ws with
    | none => lineP p ws = none ∨ joinB [32] ws.dropLast ∈ seen
    | some (p', was') => lineP p ws = some p' ∧ joinB [32] ws.dropLast ∉ seen ∧ Seen was' (seen ++ [joinB [32] ws.dropLast]) := by
  by_cases h3 : ws.length = 3
  · obtain ⟨w0, w1, w2, rfl⟩ : ∃ w0 w1 w2, ws = [w0, w1, w2] := by
      match ws, h3 with
      | [a, b, c], _ => exact ⟨a, b, c, rfl⟩
    by_cases hk : w0 = kKeep
    · subst hk
      have hr : rlineP p was [kKeep, w1, w2] = rkeep p was w1 (if w2 = kEver then 0 else rnumV w2) := by
        unfold rlineP
        rw [if_pos ⟨rfl, rfl⟩]
        rfl
      have hl : lineP p [kKeep, w1, w2] = if ixT w1 tNames 0 < 0 ∨ (numOk w2 = false ∧ w2 ≠ kEver) then none else some (setAge p (ixT w1 tNames 0) (numV w2 : Nat)) := by
        unfold lineP
        rw [if_pos ⟨rfl, rfl⟩]
        rfl
      rw [hr, hl]
      obtain ⟨n0, n1⟩ := age_n w2
      generalize (if w2 = kEver then 0 else rnumV w2) = n at *
      rcases ixT_range w1 tNames 0 with hx | ⟨j, hj, hx, hw⟩
      · have hno : ∀ j, j < 4 → hitAt w1 n was j = false := fun j hj => by
          unfold hitAt
          rw [decide_eq_false, Bool.false_and]
          intro e
          have : w1 ∈ tNames := by
            rw [← e, List.getD_eq_getElem?_getD, List.getElem?_eq_getElem (show j < tNames.length from hj)]
            exact List.getElem_mem _
          have := (ixT_contains w1 tNames 0).2 this
          omega
        unfold rkeep
        rw [find_none hno, hx]
        exact .inl (by rw [if_pos (.inl (by omega))])
      · rw [Nat.zero_add] at hx
        have hj4 : j < 4 := hj
        have hname : tNames.getD j [] = w1 := by rw [List.getD_eq_getElem?_getD, hw]; rfl
        have hkey : joinB [32] [kKeep, w1] = keyOf j := by
          unfold keyOf
          rw [if_pos hj4, hname]
        have hother : ∀ k, k < 4 → k ≠ j → hitAt w1 n was k = false := fun k hk hne => by
          unfold hitAt
          rw [decide_eq_false, Bool.false_and]
          intro e
          exact hne (tNames_inj k hk j hj4 (by rw [e, hname]))
        have hat := h.at_ j (by omega)
        show match rkeep p was w1 n with
          | none => _ ∨ joinB [32] [kKeep, w1] ∈ seen
          | some (p', was') => _ ∧ joinB [32] [kKeep, w1] ∉ seen ∧ Seen was' (seen ++ [joinB [32] [kKeep, w1]])
        rw [hkey, hx]
        unfold rkeep
        by_cases hn : 0 ≤ n
        · have hn' := n0.1 hn
          by_cases hs : keyOf j ∈ seen
          · have : hitAt w1 n was j = false := by
              unfold hitAt
              rw [hat, decide_eq_true hs]
              simp
            rw [find_none (fun k hk => by
              by_cases e : k = j
              · rw [e]; exact this
              · exact hother k hk e)]
            exact .inr hs
          · have : hitAt w1 n was j = true := by
              unfold hitAt
              rw [hat, decide_eq_false hs, decide_eq_true hname, decide_eq_true hn]
              rfl
            rw [find_hit hj4 (fun k hk => hother k (by omega) (by omega)) this]
            refine ⟨?_, hs, h.add (by omega)⟩
            rw [if_neg (fun hh => hh.elim (fun hh => by omega) hn'), n1 hn']
        · have : hitAt w1 n was j = false := by
            unfold hitAt
            rw [decide_eq_false hn]
            simp
          rw [find_none (fun k hk => by
            by_cases e : k = j
            · rw [e]; exact this
            · exact hother k hk e)]
          refine .inl (if_pos (.inr ?_))
          exact Classical.byContradiction fun hh => hn (n0.2 hh)
    · have hr : rlineP p was [w0, w1, w2] = none := by
        unfold rlineP
        rw [if_neg (fun h => hk h.2), if_pos (.inl (by simp))]
      have hl : lineP p [w0, w1, w2] = none := by
        unfold lineP
        rw [if_neg (fun h => hk h.1), if_neg (fun h => by simp at h), if_neg (fun h => by simp at h)]
      rw [hr, hl]
      exact .inl rfl
  · by_cases h2 : ws.length = 2
    · obtain ⟨w0, w1, rfl⟩ : ∃ w0 w1, ws = [w0, w1] := by
        match ws, h2 with
        | [a, b], _ => exact ⟨a, b, rfl⟩
      have hr : rlineP p was [w0, w1] = if rnumV w1 < 0 then none else if w0 = kSeal ∧ was.getD 4 false = false then some ({ p with c := rnumV w1 }, was.set 4 true) else if w0 = kSpan ∧ was.getD 5 false = false then some ({ p with n := rnumV w1 }, was.set 5 true) else none := by
        unfold rlineP
        rw [if_neg (fun h => by simp at h)]
        by_cases hneg : rnumV w1 < 0
        · rw [if_pos (.inr hneg), if_pos hneg]
        · rw [if_neg (fun h => h.elim (fun h => h rfl) hneg), if_neg hneg]
          rfl
      have hl : lineP p [w0, w1] = if w0 = kSeal ∧ numOk w1 = true then some { p with c := (numV w1 : Nat) } else if w0 = kSpan ∧ numOk w1 = true then some { p with n := (numV w1 : Nat) } else none := by
        unfold lineP
        rw [if_neg (fun h => by simp at h)]
        simp
      show match rlineP p was [w0, w1] with
        | none => _ ∨ joinB [32] [w0] ∈ seen
        | some (p', was') => _ ∧ joinB [32] [w0] ∉ seen ∧ Seen was' (seen ++ [joinB [32] [w0]])
      rw [hr, hl]
      have h4 := h.at_ 4 (by omega)
      have h5 := h.at_ 5 (by omega)
      have k4 : keyOf 4 = kSeal := rfl
      have k5 : keyOf 5 = kSpan := rfl
      have j1 : joinB [32] [w0] = w0 := rfl
      rw [j1]
      have hsp : w0 = kSeal → ¬ w0 = kSpan := fun h h' => by rw [h] at h'; exact absurd h' (by decide)
      by_cases hneg : rnumV w1 < 0
      · have hno := rnum_neg.1 hneg
        rw [if_pos hneg]
        exact .inl (by rw [if_neg (fun h => by rw [hno] at h; cases h.2), if_neg (fun h => by rw [hno] at h; cases h.2)])
      · have hok : numOk w1 = true := by
          cases hh : numOk w1 with
          | true => rfl
          | false => exact absurd (rnum_neg.2 hh) hneg
        have hv := rnum_ok.2 hok
        rw [if_neg hneg, hv]
        by_cases hs : w0 = kSeal
        · by_cases hm : kSeal ∈ seen
          · rw [k4, decide_eq_true hm] at h4
            rw [if_neg (fun hh => by rw [h4] at hh; cases hh.2), if_neg (fun hh => hsp hs hh.1)]
            exact .inr (by rw [hs]; exact hm)
          · rw [k4, decide_eq_false hm] at h4
            rw [if_pos ⟨hs, h4⟩]
            refine ⟨by rw [if_pos ⟨hs, hok⟩], by rw [hs]; exact hm, ?_⟩
            rw [hs, ← k4]
            exact h.add (by omega)
        · rw [if_neg (fun hh => hs hh.1)]
          by_cases hp : w0 = kSpan
          · by_cases hm : kSpan ∈ seen
            · rw [k5, decide_eq_true hm] at h5
              rw [if_neg (fun hh => by rw [h5] at hh; cases hh.2)]
              exact .inr (by rw [hp]; exact hm)
            · rw [k5, decide_eq_false hm] at h5
              rw [if_pos ⟨hp, h5⟩]
              refine ⟨by rw [if_neg (fun hh => hs hh.1), if_pos ⟨hp, hok⟩], by rw [hp]; exact hm, ?_⟩
              rw [hp, ← k5]
              exact h.add (by omega)
          · rw [if_neg (fun hh => hp hh.1)]
            exact .inl (by rw [if_neg (fun hh => hs hh.1), if_neg (fun hh => hp hh.1)])
    · have hr : rlineP p was ws = none := by
        unfold rlineP
        rw [if_neg (fun h => h3 h.1), if_pos (.inl h2)]
      have hl : lineP p ws = none := by
        unfold lineP
        rw [if_neg (fun h => h3 h.2), if_neg (fun h => h2 h.2.1), if_neg (fun h => h2 h.2.1)]
      rw [hr, hl]
      exact .inl rfl

theorem rgo_eq : ∀ (ls : List Bs) (p : Pol) (was : List Bool) (seen : List Bs) (k : Nat), Seen was seen → rgo p was k ls = parseGo p seen k ls
  | [], p, was, seen, k, h => rfl
  | x :: r, p, was, seen, k, h => by
    unfold rgo parseGo
    by_cases hw : wordsOf x = []
    · rw [if_pos hw, if_pos hw]
      exact rgo_eq r p was seen (k + 1) h
    · rw [if_neg hw, if_neg hw]
      have hl := line_eq (p := p) (ws := wordsOf x) h
      cases hr : rlineP p was (wordsOf x) with
      | none =>
        rw [hr] at hl
        rcases hl with hl | hl
        · rw [hl]; rfl
        · simp only [if_pos hl]
          split <;> rfl
      | some pw =>
        obtain ⟨p', was'⟩ := pw
        rw [hr] at hl
        obtain ⟨h1, h2, h3⟩ := hl
        rw [h1]
        simp only [if_neg h2]
        exact rgo_eq r p' was' _ (k + 1) h3

theorem rparseP_eq (l : Bs) : rparseP l = parseP l := rgo_eq _ _ _ _ _ ⟨rfl, by decide +kernel⟩
end Go.Proofs.YtlhbidbdmdcdeaaGreatDoor


/-
  What entry.Get computes, in any store. No conditions but those named in each line.
-/
namespace Go.Proofs.YtlhbidbdmdcdeaaGreatDoor
open Go Go.Abs Go.Abs.F
set_option linter.unusedVariables false

def nxt (bs : Bs) (most at_ : Nat) (bad : Bool) : Nat × Nat × Bool := match vget bs at_ with
  | some (n, e) => (min n most, e, bad || decide (most < n))
  | none => (0, at_, true)

def getFields (bs : Bs) (c : UInt8) : Option (Ent × Bool) :=
  let p := nxt bs 1073741824 1 false
  let e0 : Ent := { ent0 with k := c.toNat, v := (p.1 : Nat) }
  if c.toNat = 1 then
    let i := nxt bs 1073741824 p.2.1 p.2.2
    let t := nxt bs 4 i.2.1 i.2.2
    let f := nxt bs 1099511627776 t.2.1 t.2.2
    let o := nxt bs 1099511627776 f.2.1 f.2.2
    let u := nxt bs 4294967295 o.2.1 o.2.2
    some ({ e0 with i := (i.1 : Nat), t := (t.1 : Nat), f := (f.1 : Nat), o := (o.1 : Nat), u := (u.1 : Nat) }, u.2.2)
  else if c.toNat = 2 then
    let i := nxt bs 1073741824 p.2.1 p.2.2
    some ({ e0 with i := (i.1 : Nat) }, i.2.2)
  else if c.toNat = 4 then
    let m := nxt bs 300 p.2.1 p.2.2
    if m.2.2 = true ∨ bs.length < m.2.1 + m.1 then none else some ({ e0 with x := (bs.drop m.2.1).take m.1 }, m.2.2)
  else some (e0, p.2.2)

def getE (bs : Bs) : Option Ent := match bs with
  | [] => none
  | c :: _ => match getFields bs c with
    | none => none
    | some (e, bad) => if bad = false ∧ putE e = some bs then some e else none

section
variable {s t : St} {x y : S} {bs cs : Bs} {i : Nat}

theorem nxt_le {bs : Bs} {most at_ : Nat} {bad : Bool} : (nxt bs most at_ bad).1 ≤ most := by
  unfold nxt
  split
  · exact Nat.min_le_right _ _
  · exact Nat.zero_le _
theorem nxt_at {bs : Bs} {most at_ : Nat} {bad : Bool} (h : at_ ≤ bs.length) : (nxt bs most at_ bad).2.1 ≤ bs.length := by
  unfold nxt
  split
  · rename_i n e he
    exact (vget_lt he).2
  · exact h

theorem beq_run (d : Nat) (h : RB s x bs) (k : RB s y cs) : R (d + 1) 55 [Z x, Z y] s = some (B (decide (bs = cs)), s) := by
  rw [f55_run]
  unfold f55
  simp [h.str, k.str]

structure Cur (s0 s : St) (x : S) (bs : Bs) (at_ : Nat) (bad : Bool) : Prop where
  gr : Gr s0 s
  ge : s0.size + 4 ≤ s.size
  c1 : s.get s0.size = some (.cells true [x])
  c2 : s.get (s0.size + 1) = some (.cells true (cE ent0))
  c4 : s.get (s0.size + 2) = some (.cells true [.int .i64 (at_ : Nat)])
  c5 : s.get (s0.size + 3) = some (.cells true [.bool bad])
  le : at_ ≤ bs.length

theorem Cur.set {s0 : St} {at_ : Nat} {bad : Bool} (h : Cur s0 s x bs at_ bad) {b : Nat} (hb : s0.size + 4 ≤ b) (hb2 : b < s.size) (v : Blk) : Cur s0 (s.set b v) x bs at_ bad :=
  ⟨⟨St.wf_set h.gr.wf hb2 _, by simpa using h.gr.2.1, fun c hc => by rw [St.get_set_ne _ _ (by omega)]; exact h.gr.2.2 c hc⟩, by simpa using h.ge, by rw [St.get_set_ne _ _ (by omega)]; exact h.c1, by rw [St.get_set_ne _ _ (by omega)]; exact h.c2,
    by rw [St.get_set_ne _ _ (by omega)]; exact h.c4, by rw [St.get_set_ne _ _ (by omega)]; exact h.c5, h.le⟩

theorem Cur.gr' {s0 : St} {at_ : Nat} {bad : Bool} (h : Cur s0 s x bs at_ bad) (g : Gr s t) : Cur s0 t x bs at_ bad := by
  have := h.ge
  exact ⟨h.gr.trans g, Nat.le_trans h.ge g.2.1, by rw [g.2.2 _ (by omega)]; exact h.c1, by rw [g.2.2 _ (by omega)]; exact h.c2, by rw [g.2.2 _ (by omega)]; exact h.c4, by rw [g.2.2 _ (by omega)]; exact h.c5, h.le⟩

theorem next_run (d : Nat) {s0 : St} {at_ : Nat} {bad : Bool} (h : Cur s0 s x bs at_ bad) (hx : RB s0 x bs) (hox : ∀ c, own x = some c → c < s0.size) (hl : bs.length ≤ 8000) (most : Nat) (hm : most < 2 ^ 63) :
    ∃ t, R (d + 2) 53 [I .u64 (most : Nat), Z (.ptr s0.size 0), Z (.ptr (s0.size + 2) 0), Z (.ptr (s0.size + 3) 0)] s = some (I .i64 ((nxt bs most at_ bad).1 : Nat), t) ∧ Cur s0 t x bs (nxt bs most at_ bad).2.1 (nxt bs most at_ bad).2.2 ∧ t.size = s.size ∧
      ∀ b, b ≠ s0.size + 2 → b ≠ s0.size + 3 → t.get b = s.get b := by
  rw [f53_run]
  unfold f53
  have hge := h.ge
  have hle := h.le
  have rx : RB s x bs := hx.gr hox h.gr
  have l1 : aLoad1 (Z (.ptr s0.size 0)) s.get = some (Z x) := aLoad1_of h.c1 rfl
  have l4 : aLoad1 (Z (.ptr (s0.size + 2) 0)) s.get = some (I .i64 (at_ : Nat)) := aLoad1_of h.c4 rfl
  have l5 : aLoad1 (Z (.ptr (s0.size + 3) 0)) s.get = some (B bad) := aLoad1_of h.c5 rfl
  have e1 := vget_run d rx (by omega) (at_ := at_) (by omega)
  obtain ⟨N, hN⟩ : ∃ N, N = nxt bs most at_ bad := ⟨_, rfl⟩
  rw [← hN]
  obtain ⟨t1, ht1⟩ : ∃ t1, t1 = s.set (s0.size + 3) (.cells true [.bool N.2.2]) := ⟨_, rfl⟩
  have st1 : aStore 1 (Z (.ptr (s0.size + 3) 0)) (B N.2.2) s = some (tt, t1) := by rw [ht1]; exact aStore1_of h.c5 (by simp)
  have c4' : t1.get (s0.size + 2) = some (.cells true [.int .i64 (at_ : Nat)]) := by rw [ht1, St.get_set_ne _ _ (by omega)]; exact h.c4
  obtain ⟨t2, ht2⟩ : ∃ t2, t2 = t1.set (s0.size + 2) (.cells true [.int .i64 (N.2.1 : Nat)]) := ⟨_, rfl⟩
  have st2 : aStore 1 (Z (.ptr (s0.size + 2) 0)) (I .i64 (N.2.1 : Nat)) t1 = some (tt, t2) := by rw [ht2]; exact aStore1_of c4' (by simp)
  have z1 : t1.size = s.size := by rw [ht1]; rfl
  have z2 : t2.size = s.size := by rw [ht2]; exact z1
  have w1 : t1.wf := by rw [ht1]; exact St.wf_set h.gr.wf (by omega) _
  have w2 : t2.wf := by rw [ht2]; exact St.wf_set w1 (by omega) _
  have keep : ∀ b, b ≠ s0.size + 2 → b ≠ s0.size + 3 → t2.get b = s.get b := fun b h1 h2 => by rw [ht2, St.get_set_ne _ _ h1, ht1, St.get_set_ne _ _ h2]
  have hN1 : N.2.1 ≤ bs.length := by rw [hN]; exact nxt_at hle
  have cur : Cur s0 t2 x bs N.2.1 N.2.2 := ⟨⟨w2, by rw [z2]; exact h.gr.2.1, fun b hb => by rw [keep b (by omega) (by omega)]; exact h.gr.2.2 b hb⟩, by omega, by rw [keep _ (by omega) (by omega)]; exact h.c1, by rw [keep _ (by omega) (by omega)]; exact h.c2,
    by rw [ht2]; exact St.get_set_same _ _ _, by rw [ht2, St.get_set_ne _ _ (by omega), ht1]; exact St.get_set_same _ _ _, hN1⟩
  refine ⟨t2, ?_, cur, z2, keep⟩
  cases hv : vget bs at_ with
  | none =>
    have hn : N = (0, at_, true) := by rw [hN]; unfold nxt; rw [hv]
    rw [hv] at e1
    simp only [vres, if_pos hle] at e1
    rw [hn] at st1 st2 ⊢
    have hmin : min (0 : Int) ((most : Nat) : Int) = 0 := by omega
    have w0 : IntKind.i64.wrap 0 = 0 := rfl
    cases bad with
    | true => simp [l1, l4, e1, aExtract, l5, gtt, st1, st2, hmin, w0]
    | false => simp [l1, l4, e1, aExtract, l5, gtt, st1, st2, hmin, w0]
  | some p =>
    obtain ⟨n, e⟩ := p
    have hn : N = (min n most, e, bad || decide (most < n)) := by rw [hN]; unfold nxt; rw [hv]
    rw [hv] at e1
    simp only [vres] at e1
    rw [hn] at st1 st2 ⊢
    have hmin : min ((n : Nat) : Int) ((most : Nat) : Int) = ((min n most : Nat) : Int) := by omega
    have wm : IntKind.i64.wrap ((min n most : Nat) : Int) = ((min n most : Nat) : Int) := wrap_in _ (by omega) (by omega)
    have cm : decide (((most : Nat) : Int) < ((n : Nat) : Int)) = decide (most < n) := decide_eq_decide.2 (by omega)
    generalize ((min n most : Nat) : Int) = M at *
    generalize ((n : Nat) : Int) = NN at *
    generalize ((most : Nat) : Int) = MM at *
    generalize decide (most < n) = dd at *
    cases bad with
    | true => simp [l1, l4, e1, aExtract, l5, gtt, st2, hmin, wm] at st1 ⊢; simp [st1, st2]
    | false => simp [l1, l4, e1, aExtract, l5, gtt, st2, hmin, wm, cm] at st1 ⊢; simp [st1, st2]

noncomputable def getTail (callf : CallF) (v42 : List T) (s43 : St) : Option (T × St) :=
  bd (aLoadN 8 (v42.getD 3 .any) s43.get) fun t71 =>
  bd2 (callf 31 [t71] s43) fun t72 s46 =>
  bd (aExtract t72 0) fun t73 =>
  bd (aExtract t72 1) fun t74 =>
  bd (aLoad1 (v42.getD 2 .any) s46.get) fun t75 =>
  bd (gT (gd t75 false) (some t74)) fun t77 =>
  bd (gT (gd t75 false) (aBin .neq t77 (I .i64 0))) fun t78 =>
  bd (aPick t75 (B true) t78) fun t79 =>
  bd (gT (gd t79 false) (some t73)) fun t81 =>
  bd (gT (gd t79 false) (aLoad1 (v42.getD 0 .any) s46.get)) fun t82 =>
  bd2 (gS (gd t79 false) s46 (callf 55 [t81, t82] s46)) fun t83 s47 =>
  bd (gT (gd t79 false) (aUn .not t83)) fun t84 =>
  bd (aPick t79 (B true) t84) fun t85 =>
  br t85 (bd (asAggT (aFill [.int .i64 0, .int .i64 0, .int .i64 0, .int .i64 0, .int .i64 0, .int .i64 0, .int .u32 0, .str []] [])) fun t86 =>
  bd2 (aStore 8 (v42.getD 1 .any) t86 s47) fun _ s48 =>
  bd (rC (aLoadN 8 (v42.getD 1 .any) s48.get) (rT (I .i64 2) (some []))) fun l49 => bd (retT l49) fun r50 =>
  some (r50, s48))
  (bd (aLoadN 8 (v42.getD 3 .any) s47.get) fun t87 =>
  bd2 (aStore 8 (v42.getD 1 .any) t87 s47) fun _ s51 =>
  bd (rC (aLoadN 8 (v42.getD 1 .any) s51.get) (rT (I .i64 0) (some []))) fun l52 => bd (retT l52) fun r53 =>
  some (r53, s51))

abbrev resE (o : Option Ent) : T := match o with
  | some e => .tup [.agg (cE e), .s (.int .i64 0)]
  | none => .tup [.agg (cE ent0), .s (.int .i64 2)]

theorem tail_run (d : Nat) {s0 : St} {at_ : Nat} {bad : Bool} {e : Ent} (h : Cur s0 s x bs at_ bad) (hx : RB s0 x bs) (hox : ∀ c, own x = some c → c < s0.size) (hz : s.size = s0.size + 5) (he : s.get (s0.size + 4) = some (.cells true (cE e))) (hw : EWf e) :
    ∃ τ, getTail (R (d + 9)) [Z (.ptr s0.size 0), Z (.ptr (s0.size + 1) 0), Z (.ptr (s0.size + 3) 0), Z (.ptr (s0.size + 4) 0)] s = some (resE (if bad = false ∧ putE e = some bs then some e else none), τ) ∧ Gr s0 τ := by
  have l8 := load8 (g := s.get) he
  unfold getTail
  have fin : ∀ u, Gr s u → aLoad1 (Z (.ptr (s0.size + 3) 0)) u.get = some (B bad) ∧ aLoad1 (Z (.ptr s0.size 0)) u.get = some (Z x) ∧ RB u x bs ∧ aLoadN 8 (Z (.ptr (s0.size + 4) 0)) u.get = some (AE e) ∧
      (∀ e', aStore 8 (Z (.ptr (s0.size + 1) 0)) (AE e') u = some (tt, u.set (s0.size + 1) (.cells true (cE e'))) ∧ aLoadN 8 (Z (.ptr (s0.size + 1) 0)) (u.set (s0.size + 1) (.cells true (cE e'))).get = some (AE e') ∧ Gr s0 (u.set (s0.size + 1) (.cells true (cE e')))) := fun u g => by
    have h' := h.gr' g
    have he' : u.get (s0.size + 4) = some (.cells true (cE e)) := by rw [g.2.2 _ (by omega)]; exact he
    refine ⟨aLoad1_of h'.c5 rfl, aLoad1_of h'.c1 rfl, hx.gr hox h'.gr, load8 he', fun e' => ⟨store8 h'.c2 rfl, load8 (St.get_set_same _ _ _), ⟨St.wf_set h'.gr.wf (by have := h'.ge; omega) _, by simpa using h'.gr.2.1, fun b hb => by rw [St.get_set_ne _ _ (by omega)]; exact h'.gr.2.2 b hb⟩⟩⟩
  cases hm : mayE e with
  | false =>
    obtain ⟨u, eu, gu⟩ := put_bad d h.gr.wf hm
    obtain ⟨f1, f2, f3, f4, f5⟩ := fin u gu
    obtain ⟨q1, q2, q3⟩ := f5 ent0
    have hp : ¬ (bad = false ∧ putE e = some bs) := fun hh => by simp [putE, hm] at hh
    rw [if_neg hp]
    refine ⟨_, ?_, q3⟩
    generalize u.set (s0.size + 1) (.cells true (cE ent0)) = u2 at *
    generalize R (d + 9) = r at *
    cases bad with
    | true => simp [l8, eu, aExtract, f1, gtt, agg8, q1, q2, rC, rT, retT, allV]
    | false => simp [l8, eu, aExtract, f1, gtt, agg8, q1, q2, rC, rT, retT, allV]
  | true =>
    obtain ⟨y, u, eu, fu⟩ := put_run d h.gr.wf hm hw
    obtain ⟨f1, f2, f3, f4, f5⟩ := fin u fu.gr
    have eq := beq_run (d + 8) fu.rd f3
    have hput : putE e = some (putB e) := by simp [putE, hm]
    simp only [Nat.add_assoc, Nat.reduceAdd] at eq
    cases bad with
    | true =>
      obtain ⟨q1, q2, q3⟩ := f5 ent0
      have hp : ¬ (true = false ∧ putE e = some bs) := fun hh => by simp at hh
      rw [if_neg hp]
      refine ⟨_, ?_, q3⟩
      generalize u.set (s0.size + 1) (.cells true (cE ent0)) = u2 at *
      generalize R (d + 9) = r at *
      simp [l8, eu, aExtract, f1, gtt, agg8, q1, q2, rC, rT, retT, allV]
    | false =>
      by_cases hb : putB e = bs
      · obtain ⟨q1, q2, q3⟩ := f5 e
        rw [if_pos ⟨rfl, by rw [hput, hb]⟩]
        rw [decide_eq_true hb] at eq
        refine ⟨_, ?_, q3⟩
        generalize u.set (s0.size + 1) (.cells true (cE e)) = u2 at *
        generalize R (d + 9) = r at *
        simp [l8, eu, aExtract, f1, f2, f4, eq, q1, q2, rC, rT, retT, allV]
      · obtain ⟨q1, q2, q3⟩ := f5 ent0
        have hp : ¬ (false = false ∧ putE e = some bs) := fun hh => by
          rw [hput] at hh
          exact hb (by simpa using hh.2)
        rw [if_neg hp]
        rw [decide_eq_false hb] at eq
        refine ⟨_, ?_, q3⟩
        generalize u.set (s0.size + 1) (.cells true (cE ent0)) = u2 at *
        generalize R (d + 9) = r at *
        simp [l8, eu, aExtract, f1, f2, eq, agg8, q1, q2, rC, rT, retT, allV]

theorem dyn_clo {callf : CallF} {f a b c : Nat} {args : List T} {σ : St} (h : callable Tryz.prog f = true) : dyn Tryz.prog callf (Z (.clo f [(a, 0), (b, 0), (c, 0)])) args σ = callf f (args ++ [Z (.ptr a 0), Z (.ptr b 0), Z (.ptr c 0)]) σ := by
  simp [dyn, h, capT]

theorem get_run (d : Nat) (wf : s.wf) (hx : RB s x bs) (hox : ∀ c, own x = some c → c < s.size) (hl : bs.length ≤ 8000) : ∃ τ, R (d + 10) 33 [Z x] s = some (resE (getE bs), τ) ∧ Gr s τ := by
  rw [f33_run]
  unfold f33
  obtain ⟨n, hn⟩ : ∃ n, n = s.size := ⟨_, rfl⟩
  obtain ⟨s1, hs1⟩ : ∃ s1, s1 = s.push (.cells true [x]) := ⟨_, rfl⟩
  have nw1 : aNew s (nBox (Z x)) = some (Z (.ptr n 0), s1) := by rw [hs1, hn]; rfl
  have g1 : Gr s s1 := by rw [hs1]; exact Gr.push wf _
  have z1 : s1.size = n + 1 := by rw [hs1, hn]; rfl
  have b1 : s1.get n = some (.cells true [x]) := by rw [hs1, hn]; exact St.get_push_same _ _
  obtain ⟨s2, hs2⟩ : ∃ s2, s2 = s1.push (.cells true (cE ent0)) := ⟨_, rfl⟩
  have nw2 : aNew s1 (nCells [.int .i64 0, .int .i64 0, .int .i64 0, .int .i64 0, .int .i64 0, .int .i64 0, .int .u32 0, .str []]) = some (Z (.ptr (n + 1) 0), s2) := by rw [hs2, ← z1]; rfl
  have g2 : Gr s1 s2 := by rw [hs2]; exact Gr.push g1.wf _
  have z2 : s2.size = n + 2 := by rw [hs2]; simp [z1]
  have b2 : s2.get (n + 1) = some (.cells true (cE ent0)) := by rw [hs2, ← z1]; exact St.get_push_same _ _
  have b1' : s2.get n = some (.cells true [x]) := by rw [g2.2.2 n (by omega)]; exact b1
  have ld1 : aLoad1 (Z (.ptr n 0)) s2.get = some (Z x) := aLoad1_of b1' rfl
  have hlen := hx.lenB
  cases hbs : bs with
  | nil =>
    rw [hbs] at hlen
    have st := store8 (e := ent0) b2 rfl
    have ld := load8 (g := (s2.set (n + 1) (.cells true (cE ent0))).get) (i := n + 1) (e := ent0) (St.get_set_same _ _ _)
    refine ⟨s2.set (n + 1) (.cells true (cE ent0)), ?_, ⟨St.wf_set g2.wf (by omega) _, by simp; omega, fun b hb => by rw [St.get_set_ne _ _ (by omega), g2.2.2 b (by omega), g1.2.2 b hb]⟩⟩
    generalize s2.set (n + 1) (.cells true (cE ent0)) = s3 at *
    simp [nw1, nw2, ld1, hlen, agg8, st, ld, rC, rT, retT, allV, getE]
  | cons c0 rest =>
    have hpos : 0 < bs.length := by rw [hbs]; simp
    obtain ⟨s6, hs6⟩ : ∃ s6, s6 = s2.push (.cells true [.int .i64 0]) := ⟨_, rfl⟩
    have nw6 : aNew s2 (nCells [.int .i64 0]) = some (Z (.ptr (n + 2) 0), s6) := by rw [hs6, ← z2]; rfl
    have g6 : Gr s2 s6 := by rw [hs6]; exact Gr.push g2.wf _
    have z6 : s6.size = n + 3 := by rw [hs6]; simp [z2]
    have b6 : s6.get (n + 2) = some (.cells true [.int .i64 0]) := by rw [hs6, ← z2]; exact St.get_push_same _ _
    obtain ⟨s7, hs7⟩ : ∃ s7, s7 = s6.push (.cells true [.bool false]) := ⟨_, rfl⟩
    have nw7 : aNew s6 (nCells [.bool false]) = some (Z (.ptr (n + 3) 0), s7) := by rw [hs7, ← z6]; rfl
    have g7 : Gr s6 s7 := by rw [hs7]; exact Gr.push g6.wf _
    have z7 : s7.size = n + 4 := by rw [hs7]; simp [z6]
    have b7 : s7.get (n + 3) = some (.cells true [.bool false]) := by rw [hs7, ← z6]; exact St.get_push_same _ _
    have b6' : s7.get (n + 2) = some (.cells true [.int .i64 0]) := by rw [g7.2.2 _ (by omega)]; exact b6
    obtain ⟨s8, hs8⟩ : ∃ s8, s8 = s7.set (n + 2) (.cells true [.int .i64 1]) := ⟨_, rfl⟩
    have st8 : aStore 1 (Z (.ptr (n + 2) 0)) (I .i64 1) s7 = some (tt, s8) := by rw [hs8]; exact aStore1_of b6' (by simp)
    have b7' : s8.get (n + 3) = some (.cells true [.bool false]) := by rw [hs8, St.get_set_ne _ _ (by omega)]; exact b7
    obtain ⟨s9, hs9⟩ : ∃ s9, s9 = s8.set (n + 3) (.cells true [.bool false]) := ⟨_, rfl⟩
    have st9 : aStore 1 (Z (.ptr (n + 3) 0)) (B false) s8 = some (tt, s9) := by rw [hs9]; exact aStore1_of b7' (by simp)
    have z9 : s9.size = n + 4 := by rw [hs9, hs8]; simpa using z7
    have wf8 : s8.wf := by rw [hs8]; exact St.wf_set g7.wf (by omega) _
    have wf9 : s9.wf := by rw [hs9]; exact St.wf_set wf8 (by rw [hs8]; simp [z7]) _
    have old9 : ∀ b, b < n + 2 → s9.get b = s2.get b := fun b hb => by rw [hs9, St.get_set_ne _ _ (by omega), hs8, St.get_set_ne _ _ (by omega), g7.2.2 b (by omega), g6.2.2 b (by omega)]
    have cur9 : Cur s s9 x bs 1 false := by
      refine ⟨⟨wf9, by omega, fun b hb => by rw [old9 b (by omega), g2.2.2 b (by omega), g1.2.2 b hb]⟩, by omega, by rw [← hn, old9 _ (by omega)]; exact b1', by rw [← hn, old9 _ (by omega)]; exact b2, ?_, by rw [← hn, hs9]; exact St.get_set_same _ _ _, by omega⟩
      rw [← hn, hs9, St.get_set_ne _ _ (by omega), hs8]
      exact St.get_set_same _ _ _
    have ld9 : aLoad1 (Z (.ptr n 0)) s9.get = some (Z x) := by rw [hn]; exact aLoad1_of cur9.c1 rfl
    have rx9 : RB s9 x bs := hx.gr hox cur9.gr
    have hc0 : bs[0]? = some c0 := by rw [hbs]; rfl
    obtain ⟨p0, ix0, lp0⟩ := RB.atB rx9 (n := 0) (j := 0) rfl hc0
    have clo : aClo 53 [Z (.ptr n 0), Z (.ptr (n + 2) 0), Z (.ptr (n + 3) 0)] [] = some (Z (.clo 53 [(n, 0), (n + 2, 0), (n + 3, 0)])) := rfl
    have hcal : callable Tryz.prog 53 = true := by kernel_rfl
    have dy : ∀ (r : CallF) (m : Int) (u : St), dyn Tryz.prog r (Z (.clo 53 [(n, 0), (n + 2, 0), (n + 3, 0)])) [I .u64 m] u = r 53 [I .u64 m, Z (.ptr n 0), Z (.ptr (n + 2) 0), Z (.ptr (n + 3) 0)] u := fun r m u => dyn_clo hcal
    have nxr : ∀ (u : St) (a : Nat) (bad : Bool) (most : Nat), Cur s u x bs a bad → most < 2 ^ 63 → ∃ t, R (d + 9) 53 [I .u64 (most : Nat), Z (.ptr n 0), Z (.ptr (n + 2) 0), Z (.ptr (n + 3) 0)] u = some (I .i64 ((nxt bs most a bad).1 : Nat), t) ∧ Cur s t x bs (nxt bs most a bad).2.1 (nxt bs most a bad).2.2 ∧ t.size = u.size ∧
        ∀ b, b ≠ n + 2 → b ≠ n + 3 → t.get b = u.get b := fun u a bad most hc hm => by
      have := next_run (d + 7) hc hx hox hl most hm
      rw [← hn] at this
      exact this
    obtain ⟨s10, e10, cur10, z10, k10⟩ := nxr s9 1 false 1073741824 cur9 (by decide)
    obtain ⟨P, hP⟩ : ∃ P, P = nxt bs 1073741824 1 false := ⟨_, rfl⟩
    rw [← hP] at e10 cur10
    obtain ⟨s11, hs11⟩ : ∃ s11, s11 = s10.push (.cells true (cE ent0)) := ⟨_, rfl⟩
    have nw11 : aNew s10 (nCells [.int .i64 0, .int .i64 0, .int .i64 0, .int .i64 0, .int .i64 0, .int .i64 0, .int .u32 0, .str []]) = some (Z (.ptr (n + 4) 0), s11) := by rw [hs11, show n + 4 = s10.size by omega]; rfl
    have g11 : Gr s10 s11 := by rw [hs11]; exact Gr.push cur10.gr.wf _
    have z11 : s11.size = n + 5 := by rw [hs11]; simp; omega
    have b11 : s11.get (n + 4) = some (.cells true (cE ent0)) := by rw [hs11, show n + 4 = s10.size by omega]; exact St.get_push_same _ _
    obtain ⟨e0, he0⟩ : ∃ e0 : Ent, e0 = { ent0 with k := c0.toNat, v := (P.1 : Nat) } := ⟨_, rfl⟩
    have ag0 : asAggT (aFill [.int .i64 0, .int .i64 0, .int .i64 0, .int .i64 0, .int .i64 0, .int .i64 0, .int .u32 0, .str []] [(0, 1, I .i64 (c0.toNat : Int)), (1, 1, I .i64 ((P.1 : Nat) : Int))]) = some (AE e0) := by rw [he0]; rfl
    obtain ⟨s12, hs12⟩ : ∃ s12, s12 = s11.set (n + 4) (.cells true (cE e0)) := ⟨_, rfl⟩
    have st12 := store8 (e := e0) b11 rfl
    rw [← hs12] at st12
    have cur12 : Cur s s12 x bs P.2.1 P.2.2 := by rw [hs12]; exact (cur10.gr' g11).set (by omega) (by omega) _
    have z12 : s12.size = n + 5 := by rw [hs12]; simpa using z11
    have b12 : s12.get (n + 4) = some (.cells true (cE e0)) := by rw [hs12]; exact St.get_set_same _ _ _
    have hupd : ∀ (q : T) (v : S), aLoad1 q s9.get = some (Z v) → (∀ b o, q = Z (.ptr b o) → b < s.size ∨ b = n) → aLoad1 q (updM s10.get s10.size (.cells true [.int .i64 0, .int .i64 0, .int .i64 0, .int .i64 0, .int .i64 0, .int .i64 0, .int .u32 0, .str []])) = aLoad1 q s9.get := by
      intro q v hq hb
      cases q with
      | any => cases hq
      | tup _ => cases hq
      | v w => cases w with
        | agg _ => cases hq
        | s w => cases w with
          | ptr b o =>
            have hb' := hb b o rfl
            have e1 : updM s10.get s10.size (.cells true [.int .i64 0, .int .i64 0, .int .i64 0, .int .i64 0, .int .i64 0, .int .i64 0, .int .u32 0, .str []]) b = s9.get b := by
              rw [updM_ne _ _ (by omega)]
              exact k10 b (by omega) (by omega)
            simp only [aLoad1, e1]
          | _ => cases hq
    have ck1 := hupd (Z (.ptr n 0)) x ld9 (fun b o e => by cases e; exact .inr rfl)
    have ck2 := hupd p0 (.int .u8 c0.toNat) lp0 (fun b o e => by
      subst e
      rcases rx9.rd with ⟨h0, _⟩ | ⟨c, o', cap, w, rows, rfl, _⟩
      · omega
      · have h2 := hox c rfl
        simp only [aIndexSl] at ix0
        split at ix0
        · cases ix0; exact .inl h2
        · cases ix0)
    have hkind : aLoad1 (Z (.ptr (n + 4) 0)) s12.get = some (I .i64 (c0.toNat : Int)) := aLoad1_of b12 (by rw [he0]; rfl)
    have w0 : IntKind.i64.wrap (c0.toNat : Int) = (c0.toNat : Int) := wrap_in _ (by have := c0.toNat_lt; omega) (by have := c0.toNat_lt; omega)
    have hne : ¬ ((bs.length : Int) = 0) := by omega
    have hget : getE bs = match getFields bs c0 with
      | none => none
      | some (e, bad) => if bad = false ∧ putE e = some bs then some e else none := by rw [hbs]; rfl
    rw [← hbs, hget]
    have nxq : ∀ (u : St) (a : Nat) (bad : Bool) (e : Ent) (most : Nat), (Cur s u x bs a bad ∧ u.size = n + 5 ∧ u.get (n + 4) = some (.cells true (cE e))) → most < 2 ^ 63 → ∃ t, R (d + 9) 53 [I .u64 (most : Nat), Z (.ptr n 0), Z (.ptr (n + 2) 0), Z (.ptr (n + 3) 0)] u = some (I .i64 ((nxt bs most a bad).1 : Nat), t) ∧
        (Cur s t x bs (nxt bs most a bad).2.1 (nxt bs most a bad).2.2 ∧ t.size = n + 5 ∧ t.get (n + 4) = some (.cells true (cE e))) := fun u a bad e most hq hm => by
      obtain ⟨t, e1, c1, z, k⟩ := nxr u a bad most hq.1 hm
      exact ⟨t, e1, c1, by rw [z]; exact hq.2.1, by rw [k _ (by omega) (by omega)]; exact hq.2.2⟩
    have stq : ∀ (u : St) (a : Nat) (bad : Bool) (e e' : Ent) (off : Nat) (val : S), (Cur s u x bs a bad ∧ u.size = n + 5 ∧ u.get (n + 4) = some (.cells true (cE e))) → setRange (cE e) off [val] = cE e' → off < 8 → ∃ t, aStore 1 (Z (.ptr (n + 4) off)) (Z val) u = some (tt, t) ∧
        (Cur s t x bs a bad ∧ t.size = n + 5 ∧ t.get (n + 4) = some (.cells true (cE e'))) := fun u a bad e e' off val hq hs ho => by
      have st := aStore1_of (x := val) hq.2.2 (by simpa [cE] using ho)
      rw [hs] at st
      exact ⟨_, st, hq.1.set (by omega) (by have := hq.2.1; omega) _, by simpa using hq.2.1, St.get_set_same _ _ _⟩
    have finq : ∀ (u : St) (a : Nat) (bad : Bool) (e : Ent), (Cur s u x bs a bad ∧ u.size = n + 5 ∧ u.get (n + 4) = some (.cells true (cE e))) → EWf e → ∃ τ, getTail (R (d + 9)) [Z (.ptr n 0), Z (.ptr (n + 1) 0), Z (.ptr (n + 3) 0), Z (.ptr (n + 4) 0)] u = some (resE (if bad = false ∧ putE e = some bs then some e else none), τ) ∧ Gr s τ := fun u a bad e hq hw => by
      have := tail_run d hq.1 hx hox (by rw [← hn]; exact hq.2.1) (by rw [← hn]; exact hq.2.2) hw
      rw [← hn] at this
      exact this
    have q12 : Cur s s12 x bs P.2.1 P.2.2 ∧ s12.size = n + 5 ∧ s12.get (n + 4) = some (.cells true (cE e0)) := ⟨cur12, z12, b12⟩
    have hw0 : EWf e0 := by rw [he0]; exact ⟨Int.le_refl 0, (by decide : (0 : Int) < 4294967296)⟩
    obtain ⟨C, hC⟩ : ∃ C, C = (c0.toNat : Int) := ⟨_, rfl⟩
    rw [← hC] at lp0 ag0 hkind w0
    simp only [aLenSl] at hlen
    have hlen' := hx.lenB
    have hnd : ¬ bs = [] := fun e => by rw [e] at hpos; simp at hpos
    by_cases k1 : c0.toNat = 1
    · have d1 : decide (C = 1) = true := decide_eq_true (by omega)
      obtain ⟨s13, e13, q13⟩ := nxq s12 _ _ _ 1073741824 q12 (by decide)
      obtain ⟨I1, hI1⟩ : ∃ I1, I1 = nxt bs 1073741824 P.2.1 P.2.2 := ⟨_, rfl⟩
      rw [← hI1] at e13 q13
      obtain ⟨s14, e14, q14⟩ := nxq s13 _ _ _ 4 q13 (by decide)
      obtain ⟨T1, hT1⟩ : ∃ T1, T1 = nxt bs 4 I1.2.1 I1.2.2 := ⟨_, rfl⟩
      rw [← hT1] at e14 q14
      obtain ⟨s15, e15, q15⟩ := stq s14 _ _ _ { e0 with i := (I1.1 : Nat) } 2 (.int .i64 (I1.1 : Nat)) q14 rfl (by omega)
      obtain ⟨s16, e16, q16⟩ := stq s15 _ _ _ { e0 with i := (I1.1 : Nat), t := (T1.1 : Nat) } 3 (.int .i64 (T1.1 : Nat)) q15 rfl (by omega)
      obtain ⟨s17, e17, q17⟩ := nxq s16 _ _ _ 1099511627776 q16 (by decide)
      obtain ⟨F1, hF1⟩ : ∃ F1, F1 = nxt bs 1099511627776 T1.2.1 T1.2.2 := ⟨_, rfl⟩
      rw [← hF1] at e17 q17
      obtain ⟨s18, e18, q18⟩ := nxq s17 _ _ _ 1099511627776 q17 (by decide)
      obtain ⟨O1, hO1⟩ : ∃ O1, O1 = nxt bs 1099511627776 F1.2.1 F1.2.2 := ⟨_, rfl⟩
      rw [← hO1] at e18 q18
      obtain ⟨s19, e19, q19⟩ := stq s18 _ _ _ { e0 with i := (I1.1 : Nat), t := (T1.1 : Nat), f := (F1.1 : Nat) } 4 (.int .i64 (F1.1 : Nat)) q18 rfl (by omega)
      obtain ⟨s20, e20, q20⟩ := stq s19 _ _ _ { e0 with i := (I1.1 : Nat), t := (T1.1 : Nat), f := (F1.1 : Nat), o := (O1.1 : Nat) } 5 (.int .i64 (O1.1 : Nat)) q19 rfl (by omega)
      obtain ⟨s21, e21, q21⟩ := nxq s20 _ _ _ 4294967295 q20 (by decide)
      obtain ⟨U1, hU1⟩ : ∃ U1, U1 = nxt bs 4294967295 O1.2.1 O1.2.2 := ⟨_, rfl⟩
      have hUl : U1.1 ≤ 4294967295 := by rw [hU1]; exact nxt_le
      rw [← hU1] at e21 q21
      have wU : IntKind.u32.wrap (U1.1 : Int) = (U1.1 : Int) := by rw [wrap32]; omega
      obtain ⟨s22, e22, q22⟩ := stq s21 _ _ _ { e0 with i := (I1.1 : Nat), t := (T1.1 : Nat), f := (F1.1 : Nat), o := (O1.1 : Nat), u := (U1.1 : Nat) } 6 (.int .u32 (U1.1 : Nat)) q21 rfl (by omega)
      obtain ⟨τ, et, gt⟩ := finq s22 _ _ _ q22 ⟨by show (0 : Int) ≤ (U1.1 : Nat); omega, by show ((U1.1 : Nat) : Int) < 4294967296; omega⟩
      have hres : getFields bs c0 = some ({ e0 with i := (I1.1 : Nat), t := (T1.1 : Nat), f := (F1.1 : Nat), o := (O1.1 : Nat), u := (U1.1 : Nat) }, U1.2.2) := by
        unfold getFields
        rw [if_pos k1]
        simp only [← hP, ← hI1, ← hT1, ← hF1, ← hO1, ← hU1, he0]
      rw [hres]
      refine ⟨τ, ?_, gt⟩
      clear nxq stq finq nxr hupd q13 q14 q15 q16 q17 q18 q19 q20 q21 q22
      generalize resE (if U1.2.2 = false ∧ putE { e0 with i := (I1.1 : Nat), t := (T1.1 : Nat), f := (F1.1 : Nat), o := (O1.1 : Nat), u := (U1.1 : Nat) } = some bs then some { e0 with i := (I1.1 : Nat), t := (T1.1 : Nat), f := (F1.1 : Nat), o := (O1.1 : Nat), u := (U1.1 : Nat) } else none) = RES at *
      unfold getTail at et
      generalize R (d + 9) = r at *
      generalize ((P.1 : Nat) : Int) = PV at *
      generalize ((I1.1 : Nat) : Int) = IV at *
      generalize ((T1.1 : Nat) : Int) = TV at *
      generalize ((F1.1 : Nat) : Int) = FV at *
      generalize ((O1.1 : Nat) : Int) = OV at *
      generalize ((U1.1 : Nat) : Int) = UV at *
      have e10' : r 53 [I .u64 1073741824, Z (.ptr n 0), Z (.ptr (n + 2) 0), Z (.ptr (n + 3) 0)] s9 = some (I .i64 PV, s10) := e10
      have e13' : r 53 [I .u64 1073741824, Z (.ptr n 0), Z (.ptr (n + 2) 0), Z (.ptr (n + 3) 0)] s12 = some (I .i64 IV, s13) := e13
      have e14' : r 53 [I .u64 4, Z (.ptr n 0), Z (.ptr (n + 2) 0), Z (.ptr (n + 3) 0)] s13 = some (I .i64 TV, s14) := e14
      have e17' : r 53 [I .u64 1099511627776, Z (.ptr n 0), Z (.ptr (n + 2) 0), Z (.ptr (n + 3) 0)] s16 = some (I .i64 FV, s17) := e17
      have e18' : r 53 [I .u64 1099511627776, Z (.ptr n 0), Z (.ptr (n + 2) 0), Z (.ptr (n + 3) 0)] s17 = some (I .i64 OV, s18) := e18
      have e21' : r 53 [I .u64 4294967295, Z (.ptr n 0), Z (.ptr (n + 2) 0), Z (.ptr (n + 3) 0)] s20 = some (I .i64 UV, s21) := e21
      simpa [nw1, nw2, ld1, hlen', hnd, nw6, nw7, st8, st9, clo, ld9, ix0, lp0, w0, dy, e10', ag0, nw11, st12, ck1, ck2, hkind, d1, e13', e14', e15, e16, e17', e18', e19, e20, e21', wU, e22] using et
    · have d1 : decide (C = 1) = false := decide_eq_false (by omega)
      by_cases k2 : c0.toNat = 2
      · have d2 : decide (C = 2) = true := decide_eq_true (by omega)
        obtain ⟨s13, e13, q13⟩ := nxq s12 _ _ _ 1073741824 q12 (by decide)
        obtain ⟨I1, hI1⟩ : ∃ I1, I1 = nxt bs 1073741824 P.2.1 P.2.2 := ⟨_, rfl⟩
        rw [← hI1] at e13 q13
        obtain ⟨s14, e14, q14⟩ := stq s13 _ _ _ { e0 with i := (I1.1 : Nat) } 2 (.int .i64 (I1.1 : Nat)) q13 rfl (by omega)
        obtain ⟨τ, et, gt⟩ := finq s14 _ _ _ q14 hw0
        have hres : getFields bs c0 = some ({ e0 with i := (I1.1 : Nat) }, I1.2.2) := by
          unfold getFields
          rw [if_neg k1, if_pos k2]
          simp only [← hP, ← hI1, he0]
        rw [hres]
        refine ⟨τ, ?_, gt⟩
        clear nxq stq finq nxr hupd q13 q14
        generalize resE (if I1.2.2 = false ∧ putE { e0 with i := (I1.1 : Nat) } = some bs then some { e0 with i := (I1.1 : Nat) } else none) = RES at *
        unfold getTail at et
        generalize R (d + 9) = r at *
        generalize ((P.1 : Nat) : Int) = PV at *
        generalize ((I1.1 : Nat) : Int) = IV at *
        have e10' : r 53 [I .u64 1073741824, Z (.ptr n 0), Z (.ptr (n + 2) 0), Z (.ptr (n + 3) 0)] s9 = some (I .i64 PV, s10) := e10
        have e13' : r 53 [I .u64 1073741824, Z (.ptr n 0), Z (.ptr (n + 2) 0), Z (.ptr (n + 3) 0)] s12 = some (I .i64 IV, s13) := e13
        simpa [nw1, nw2, ld1, hlen', hnd, nw6, nw7, st8, st9, clo, ld9, ix0, lp0, w0, dy, e10', ag0, nw11, st12, ck1, ck2, hkind, d1, d2, e13', e14] using et
      · have d2 : decide (C = 2) = false := decide_eq_false (by omega)
        by_cases k4 : c0.toNat = 4
        · have d4 : decide (C = 4) = true := decide_eq_true (by omega)
          obtain ⟨s13, e13, q13⟩ := nxq s12 _ _ _ 300 q12 (by decide)
          obtain ⟨M1, hM1⟩ : ∃ M1, M1 = nxt bs 300 P.2.1 P.2.2 := ⟨_, rfl⟩
          have hMl : M1.1 ≤ 300 := by rw [hM1]; exact nxt_le
          rw [← hM1] at e13 q13
          have hat := q13.1.le
          have lb : aLoad1 (Z (.ptr (n + 3) 0)) s13.get = some (B M1.2.2) := by rw [hn]; exact aLoad1_of q13.1.c5 rfl
          have lx : aLoad1 (Z (.ptr n 0)) s13.get = some (Z x) := by rw [hn]; exact aLoad1_of q13.1.c1 rfl
          have la : aLoad1 (Z (.ptr (n + 2) 0)) s13.get = some (I .i64 (M1.2.1 : Nat)) := by rw [hn]; exact aLoad1_of q13.1.c4 rfl
          have l2 : s13.get (n + 1) = some (.cells true (cE ent0)) := by rw [hn]; exact q13.1.c2
          have wsub : IntKind.i64.wrap ((bs.length : Int) - ((M1.2.1 : Nat) : Int)) = (bs.length : Int) - ((M1.2.1 : Nat) : Int) := wrap_in _ (by omega) (by omega)
          have wadd : IntKind.i64.wrap (((M1.2.1 : Nat) : Int) + ((M1.1 : Nat) : Int)) = ((M1.2.1 + M1.1 : Nat) : Int) := by rw [wrap_in _ (by omega) (by omega)]; omega
          have e10' : R (d + 9) 53 [I .u64 1073741824, Z (.ptr n 0), Z (.ptr (n + 2) 0), Z (.ptr (n + 3) 0)] s9 = some (I .i64 ((P.1 : Nat) : Int), s10) := e10
          have e13' : R (d + 9) 53 [I .u64 300, Z (.ptr n 0), Z (.ptr (n + 2) 0), Z (.ptr (n + 3) 0)] s12 = some (I .i64 ((M1.1 : Nat) : Int), s13) := e13
          by_cases hbad : M1.2.2 = true ∨ bs.length < M1.2.1 + M1.1
          · have hres : getFields bs c0 = none := by
              unfold getFields
              rw [if_neg k1, if_neg k2, if_pos k4]
              simp only [← hP, ← hM1]
              rw [if_pos hbad]
            rw [hres]
            have st := store8 (e := ent0) l2 rfl
            have ld := load8 (g := (s13.set (n + 1) (.cells true (cE ent0))).get) (i := n + 1) (e := ent0) (St.get_set_same _ _ _)
            refine ⟨s13.set (n + 1) (.cells true (cE ent0)), ?_, ⟨St.wf_set q13.1.gr.wf (by have := q13.2.1; omega) _, by simpa using q13.1.gr.2.1, fun b hb => by rw [St.get_set_ne _ _ (by omega)]; exact q13.1.gr.2.2 b hb⟩⟩
            clear nxq stq finq nxr hupd q13
            generalize s13.set (n + 1) (.cells true (cE ent0)) = s14 at *
            generalize R (d + 9) = r at *
            cases hb2 : M1.2.2 with
            | true =>
              rw [hb2] at lb
              generalize ((P.1 : Nat) : Int) = PV at *
              generalize ((M1.1 : Nat) : Int) = MV at *
              simp [nw1, nw2, ld1, hlen', hnd, nw6, nw7, st8, st9, clo, ld9, ix0, lp0, w0, dy, e10', ag0, nw11, st12, ck1, ck2, hkind, d1, d2, d4, e13', lb, gtt, agg8, st, ld, rC, rT, retT, allV]
            | false =>
              rw [hb2] at lb hbad
              have hgt : (bs.length : Int) - ((M1.2.1 : Nat) : Int) < ((M1.1 : Nat) : Int) := by
                rcases hbad with h | h
                · cases h
                · omega
              have dgt : decide ((bs.length : Int) - ((M1.2.1 : Nat) : Int) < ((M1.1 : Nat) : Int)) = true := decide_eq_true hgt
              generalize ((P.1 : Nat) : Int) = PV at *
              generalize ((M1.1 : Nat) : Int) = MV at *
              generalize ((M1.2.1 : Nat) : Int) = AV at *
              simp [nw1, nw2, ld1, hlen', hnd, nw6, nw7, st8, st9, clo, ld9, ix0, lp0, w0, dy, e10', ag0, nw11, st12, ck1, ck2, hkind, d1, d2, d4, e13', lb, lx, la, wsub, hgt, agg8, st, ld, rC, rT, retT, allV]
          · have hb2 : M1.2.2 = false := by
              cases h : M1.2.2 with
              | false => rfl
              | true => exact absurd (.inl h) hbad
            have hle : M1.2.1 + M1.1 ≤ bs.length := by
              apply Nat.le_of_not_lt
              exact fun h => hbad (.inr h)
            have hgt : ¬ ((bs.length : Int) - ((M1.2.1 : Nat) : Int) < ((M1.1 : Nat) : Int)) := by omega
            rw [hb2] at lb
            have rx13 : RB s13 x bs := hx.gr hox q13.1.gr
            obtain ⟨y, pc, ry, _⟩ := rx13.piece (lo := M1.2.1) (hi := M1.2.1 + M1.1) (by omega) hle
            have hpl : M1.2.1 + M1.1 - M1.2.1 = M1.1 := by omega
            rw [hpl, Nat.mul_one, Nat.mul_one, U_drop, U_take] at ry
            have ry' : RB s13 y ((bs.drop M1.2.1).take M1.1) := by
              have : ((bs.drop M1.2.1).take M1.1).length = M1.1 := by rw [List.length_take, List.length_drop]; omega
              unfold RB
              rw [this]
              exact ry
            have hstr := ry'.str
            obtain ⟨s14, e14, q14⟩ := stq s13 _ _ _ { e0 with x := (bs.drop M1.2.1).take M1.1 } 7 (.str ((bs.drop M1.2.1).take M1.1)) q13 rfl (by omega)
            obtain ⟨τ, et, gt⟩ := finq s14 _ _ _ q14 hw0
            have hres : getFields bs c0 = some ({ e0 with x := (bs.drop M1.2.1).take M1.1 }, M1.2.2) := by
              unfold getFields
              rw [if_neg k1, if_neg k2, if_pos k4]
              simp only [← hP, ← hM1]
              rw [if_neg hbad, he0]
            rw [hres]
            refine ⟨τ, ?_, gt⟩
            clear nxq stq finq nxr hupd q13 q14
            generalize resE (if M1.2.2 = false ∧ putE { e0 with x := (bs.drop M1.2.1).take M1.1 } = some bs then some { e0 with x := (bs.drop M1.2.1).take M1.1 } else none) = RES at *
            unfold getTail at et
            generalize R (d + 9) = r at *
            generalize (bs.drop M1.2.1).take M1.1 = XX at *
            generalize ((P.1 : Nat) : Int) = PV at *
            generalize ((M1.2.1 + M1.1 : Nat) : Int) = BV at *
            generalize ((M1.1 : Nat) : Int) = MV at *
            generalize ((M1.2.1 : Nat) : Int) = AV at *
            simpa [nw1, nw2, ld1, hlen', hnd, nw6, nw7, st8, st9, clo, ld9, ix0, lp0, w0, dy, e10', ag0, nw11, st12, ck1, ck2, hkind, d1, d2, d4, e13', lb, lx, la, wsub, hgt, wadd, pc, hstr, e14] using et
        · have d4 : decide (C = 4) = false := decide_eq_false (by omega)
          obtain ⟨τ, et, gt⟩ := finq s12 _ _ _ q12 hw0
          have hres : getFields bs c0 = some (e0, P.2.2) := by
            unfold getFields
            rw [if_neg k1, if_neg k2, if_neg k4]
            simp only [← hP, he0]
          rw [hres]
          refine ⟨τ, ?_, gt⟩
          clear nxq stq finq nxr hupd
          generalize resE (if P.2.2 = false ∧ putE e0 = some bs then some e0 else none) = RES at *
          unfold getTail at et
          generalize R (d + 9) = r at *
          generalize ((P.1 : Nat) : Int) = PV at *
          have e10' : r 53 [I .u64 1073741824, Z (.ptr n 0), Z (.ptr (n + 2) 0), Z (.ptr (n + 3) 0)] s9 = some (I .i64 PV, s10) := e10
          simpa [nw1, nw2, ld1, hlen', hnd, nw6, nw7, st8, st9, clo, ld9, ix0, lp0, w0, dy, e10', ag0, nw11, st12, ck1, ck2, hkind, d1, d2, d4] using et
end
end Go.Proofs.YtlhbidbdmdcdeaaGreatDoor


/-
  Frames: what log.Wrap, Open, Frame, All, Read, Meet and Front compute, in any store. No conditions but those named in each line.
-/
namespace Go.Proofs.YtlhbidbdmdcdeaaGreatDoor
open Go Go.Abs Go.Abs.F
set_option linter.unusedVariables false

abbrev RE (s : St) (x : S) (l : List Ent) : Prop := Rd 8 s x l.length (cells cE l)
abbrev FE (s0 s : St) (x : S) (l : List Ent) : Prop := Fr 8 s0 s x l.length (cells cE l)

section
variable {s t : St} {x y : S} {bs cs : Bs} {i : Nat} {l m : List Ent}

theorem RE.atE (h : RE s x l) {j : Nat} {n : Int} {e : Ent} (hn : n = j) (he : l[j]? = some e) : ∃ p, aIndexSl 8 (Z x) (I .i64 n) = some p ∧ aLoadN 8 p s.get = some (AE e) := by
  obtain ⟨c, p, h1, _, h3⟩ := Rd.at h hn (List.getElem?_eq_some_iff.1 he).1
  rw [cells_row cE_len he] at h3
  exact ⟨_, h1, h3⟩

theorem FE.lit {s0 : St} {e : Ent} (h : FE s0 s x l) (hl : l.length ≤ 1000000) :
    ∃ x' t s', aNew s (nSlice 1 (aFill [.int .i64 0, .int .i64 0, .int .i64 0, .int .i64 0, .int .i64 0, .int .i64 0, .int .u32 0, .str []] [(0, 8, AE e)])) = some (Z (.sl s.size 0 1 (.known 1)), s') ∧ aAppend 8 72 (Z x) (Z (.sl s.size 0 1 (.known 1))) s' = some (Z x', t) ∧ FE s0 t x' (l ++ [e]) ∧ s.size ≤ t.size := by
  have L := Fr.lit 8 h.gr.1 (n := 1) (vs := cells cE [e]) (by simp [cE])
  obtain ⟨x', t, e1, f, hz, k⟩ := (h.gr' L.gr).append (by_ := 72) (by omega) L.rd.src (by simp [cE]) (by omega)
  refine ⟨x', t, _, rfl, e1, ?_, Nat.le_trans L.gr.2.1 hz⟩
  unfold FE
  rw [cells_append, List.length_append]
  exact f

end
end Go.Proofs.YtlhbidbdmdcdeaaGreatDoor


/-
  Frames: what log.Open, Frame, All, Read, Meet and Front compute, in any store. No conditions but those named in each line.
-/
namespace Go.Proofs.YtlhbidbdmdcdeaaGreatDoor
open Go Go.Abs Go.Abs.F
set_option linter.unusedVariables false
section
variable {s t : St} {x y : S} {bs cs : Bs} {i : Nat} {l m : List Ent}

abbrev resF (y : S) (o : Option Bs) : T := match o with
  | some b => .tup [.s y, .s (.int .i64 0)]
  | none => .tup [.s .nils, .s (.int .i64 1)]

/-! ### Meet, Front -/

end
end Go.Proofs.YtlhbidbdmdcdeaaGreatDoor


/-
  Frames: what log.Read computes, in any store. No conditions but those named in each line.
-/
namespace Go.Proofs.YtlhbidbdmdcdeaaGreatDoor
open Go Go.Abs Go.Abs.F
set_option linter.unusedVariables false
section
variable {s t : St} {x y : S} {bs cs : Bs} {i : Nat} {l m : List Ent}

end
end Go.Proofs.YtlhbidbdmdcdeaaGreatDoor


/-
  The plain law of frames: what is put is read, what is broken is not. No conditions but those named in each line.
-/
namespace Go.Proofs.YtlhbidbdmdcdeaaGreatDoor
open Go Go.Abs Go.Abs.F
set_option linter.unusedVariables false

theorem or_add (acc c k : Nat) (h : acc < 2 ^ k) : acc ||| c * 2 ^ k = acc + c * 2 ^ k := by
  have := Nat.two_pow_add_eq_or_of_lt h c
  rw [Nat.mul_comm] at this
  rw [Nat.or_comm, ← this, Nat.add_comm]

theorem pow7 (k : Nat) : 2 ^ (7 * (k + 1)) = 128 * 2 ^ (7 * k) := by
  rw [Nat.mul_add, Nat.pow_add]; omega

theorem getN_putN {bs post : Bs} {at_ : Nat} : ∀ (f k m acc : Nat), f + k = 10 → m * 2 ^ (7 * k) < 2 ^ 64 → (k = 0 ∨ 0 < m) → acc < 2 ^ (7 * k) → bs.drop (at_ + k) = putN f m ++ post →
    getN bs at_ f k acc = some (acc + m * 2 ^ (7 * k), at_ + k + (putN f m).length) := by
  intro f
  induction f with
  | zero =>
    intro k m acc hf hm h0 ha hd
    obtain rfl : k = 10 := by omega
    exfalso
    rcases h0 with h | h
    · omega
    · have : 1 * 2 ^ 70 ≤ m * 2 ^ 70 := Nat.mul_le_mul_right _ h
      have e : 2 ^ (7 * 10) = 2 ^ 70 := rfl
      rw [e] at hm
      omega
  | succ f ih =>
    intro k m acc hf hm h0 ha hd
    have hk9 : k = 9 → m < 2 := by
      rintro rfl
      have e : 2 ^ (7 * 9) = 2 ^ 63 := rfl
      rw [e] at hm
      omega
    have hget : bs[at_ + k]? = (bs.drop (at_ + k))[0]? := by simp
    unfold getN
    by_cases hc : 128 ≤ m
    · have hp : putN (f + 1) m = UInt8.ofNat (m % 128 + 128) :: putN f (m / 128) := by rw [putN, if_pos hc]
      rw [hp] at hd ⊢
      rw [hget, hd]
      have hb : (UInt8.ofNat (m % 128 + 128)).toNat = m % 128 + 128 := by rw [byte_nat]; omega
      simp only [List.cons_append, List.getElem?_cons_zero, hb]
      rw [if_neg (by rintro ⟨h, _⟩; have := hk9 h; omega), if_pos (by omega)]
      have h128 : (m % 128 + 128) % 128 = m % 128 := by omega
      rw [h128, or_add _ _ _ ha]
      have hmul : m * 2 ^ (7 * k) = m % 128 * 2 ^ (7 * k) + m / 128 * 2 ^ (7 * (k + 1)) := by
        rw [pow7, ← Nat.mul_assoc, ← Nat.add_mul]
        congr 1
        omega
      rw [ih (k + 1) (m / 128) _ (by omega) (by omega) (.inr (by omega)) ?_ ?_]
      · rw [List.length_cons, hmul]
        congr 2 <;> omega
      · rw [pow7]
        have : m % 128 * 2 ^ (7 * k) ≤ 127 * 2 ^ (7 * k) := Nat.mul_le_mul_right _ (by omega)
        omega
      · rw [← Nat.add_assoc, ← List.drop_drop, hd]; rfl
    · have hp : putN (f + 1) m = [UInt8.ofNat m] := by rw [putN, if_neg hc]
      rw [hp] at hd ⊢
      rw [hget, hd]
      have hb : (UInt8.ofNat m).toNat = m := by rw [byte_nat]; omega
      simp only [List.cons_append, List.getElem?_cons_zero, hb]
      rw [if_neg (by rintro ⟨h, _⟩; have := hk9 h; omega), if_neg hc, if_neg (by omega), Nat.mod_eq_of_lt (by omega), or_add _ _ _ ha]
      rfl

theorem vget_vput {bs pre post : Bs} {n at_ : Nat} (hb : bs = pre ++ (vput n ++ post)) (ha : at_ = pre.length) (hn : n < 2 ^ 64) : vget bs at_ = some (n, at_ + (vput n).length) := by
  subst hb ha
  unfold vget
  rw [if_pos (by simp), getN_putN (post := post) 10 0 n 0 rfl (by simpa using hn) (.inl rfl) (by simp) (by simp [vput])]
  simp [vput]

theorem nxt_put {bs pre post : Bs} {n at_ most : Nat} {bad : Bool} (hb : bs = pre ++ (vput n ++ post)) (ha : at_ = pre.length) (hn : n ≤ most) (hm : most < 2 ^ 64) : nxt bs most at_ bad = (n, at_ + (vput n).length, bad) := by
  unfold nxt
  rw [vget_vput hb ha (by omega)]
  simp only [Nat.min_eq_left hn, Prod.mk.injEq, true_and]
  rw [decide_eq_false (by omega), Bool.or_false]

theorem getE_putB {e : Ent} (h : mayE e = true) (hw : EWf e) : getE (putB e) = some e := by
  obtain ⟨v0, v1, k0, k1, h1, h2, h3, h4⟩ := mayE_range h
  have hput : putE e = some (putB e) := by unfold putE; rw [if_pos h]
  obtain ⟨w0, w1⟩ := hw
  have main : ∃ c r, putB e = c :: r ∧ getFields (putB e) c = some (e, false) := by
    refine ⟨_, _, rfl, ?_⟩
    have hkb : (UInt8.ofNat e.k.toNat).toNat = e.k.toNat := by rw [byte_nat]; omega
    have hc1 : putB e = [UInt8.ofNat e.k.toNat] ++ (vput e.v.toNat ++ (putNs (nums e) ++ e.x)) := by simp [putB]
    have n1 := nxt_put (most := 1073741824) (bad := false) hc1 rfl (by omega) (by omega)
    have hv : ((e.v.toNat : Nat) : Int) = e.v := Int.toNat_of_nonneg v0
    rcases (by omega : e.k = 1 ∨ e.k = 2 ∨ e.k = 3 ∨ e.k = 4) with hk | hk | hk | hk
    · obtain ⟨hx, i0, i1, t0, t1, f0, f1, o1⟩ := h1 hk
      have hk' : (UInt8.ofNat e.k.toNat).toNat = 1 := by rw [hkb, hk]; rfl
      have hn : nums e = [e.i.toNat, e.t.toNat, e.f.toNat, e.o.toNat, e.u.toNat] := by simp [nums, hk]
      have c2 : putB e = ([UInt8.ofNat e.k.toNat] ++ vput e.v.toNat) ++ (vput e.i.toNat ++ (vput e.t.toNat ++ vput e.f.toNat ++ vput e.o.toNat ++ vput e.u.toNat)) := by simp [putB, hn, putNs, hx]
      have c3 : putB e = ([UInt8.ofNat e.k.toNat] ++ vput e.v.toNat ++ vput e.i.toNat) ++ (vput e.t.toNat ++ (vput e.f.toNat ++ vput e.o.toNat ++ vput e.u.toNat)) := by simp [putB, hn, putNs, hx]
      have c4 : putB e = ([UInt8.ofNat e.k.toNat] ++ vput e.v.toNat ++ vput e.i.toNat ++ vput e.t.toNat) ++ (vput e.f.toNat ++ (vput e.o.toNat ++ vput e.u.toNat)) := by simp [putB, hn, putNs, hx]
      have c5 : putB e = ([UInt8.ofNat e.k.toNat] ++ vput e.v.toNat ++ vput e.i.toNat ++ vput e.t.toNat ++ vput e.f.toNat) ++ (vput e.o.toNat ++ vput e.u.toNat) := by simp [putB, hn, putNs, hx]
      have c6 : putB e = ([UInt8.ofNat e.k.toNat] ++ vput e.v.toNat ++ vput e.i.toNat ++ vput e.t.toNat ++ vput e.f.toNat ++ vput e.o.toNat) ++ (vput e.u.toNat ++ []) := by simp [putB, hn, putNs, hx]
      have n2 := nxt_put (most := 1073741824) (bad := false) c2 rfl (by omega) (by omega)
      have n3 := nxt_put (most := 4) (bad := false) c3 rfl (by omega) (by omega)
      have n4 := nxt_put (most := 1099511627776) (bad := false) c4 rfl (by omega) (by omega)
      have n5 := nxt_put (most := 1099511627776) (bad := false) c5 rfl (by omega) (by omega)
      have n6 := nxt_put (most := 4294967295) (bad := false) c6 rfl (by omega) (by omega)
      simp only [List.length_append, List.length_cons, List.length_nil, Nat.zero_add] at n1 n2 n3 n4 n5 n6
      unfold getFields
      simp only [hk', n1, n2, n3, n4, n5, n6, if_true]
      simp only [hv, Int.toNat_of_nonneg (show 0 ≤ e.i by omega), Int.toNat_of_nonneg t0, Int.toNat_of_nonneg f0, Int.toNat_of_nonneg (show 0 ≤ e.o by omega), Int.toNat_of_nonneg w0]
      obtain ⟨a1, a2, a3, a4, a5, a6, a7, a8⟩ := e
      simp only at hk hx
      subst hk hx
      rfl
    · have hk' : (UInt8.ofNat e.k.toNat).toNat = 2 := by rw [hkb, hk]; rfl
      obtain ⟨q0, q1, q2⟩ := h2 hk
      have hn : nums e = [e.i.toNat] := by simp [nums, hk]
      have c2 : putB e = ([UInt8.ofNat e.k.toNat] ++ vput e.v.toNat) ++ (vput e.i.toNat ++ e.x) := by simp [putB, hn, putNs]
      have n2 := nxt_put (most := 1073741824) (bad := false) c2 rfl (by omega) (by omega)
      simp only [List.length_append, List.length_cons, List.length_nil, Nat.zero_add] at n1 n2
      unfold getFields
      simp only [hk', n1, n2, if_true, if_neg (show ¬ (2 : Nat) = 1 by decide)]
      rw [hv, Int.toNat_of_nonneg (show 0 ≤ e.i by omega)]
      obtain ⟨a1, a2, a3, a4, a5, a6, a7, a8⟩ := e
      simp only at hk
      subst hk
      obtain rfl : a4 = 0 := congrArg Ent.t q2
      obtain rfl : a5 = 0 := congrArg Ent.f q2
      obtain rfl : a6 = 0 := congrArg Ent.o q2
      obtain rfl : a7 = 0 := congrArg Ent.u q2
      obtain rfl : a8 = [] := congrArg Ent.x q2
      rfl
    · have hk' : (UInt8.ofNat e.k.toNat).toNat = 3 := by rw [hkb, hk]; rfl
      simp only [List.length_append, List.length_cons, List.length_nil, Nat.zero_add] at n1
      unfold getFields
      simp only [hk', n1, if_neg (show ¬ (3 : Nat) = 1 by decide), if_neg (show ¬ (3 : Nat) = 2 by decide), if_neg (show ¬ (3 : Nat) = 4 by decide)]
      rw [hv]
      have q2 := (h3 hk).2
      obtain ⟨a1, a2, a3, a4, a5, a6, a7, a8⟩ := e
      simp only at hk
      subst hk
      simp only [ent0, Ent.mk.injEq] at q2
      obtain ⟨_, _, q3, q4, q5, q6, q7, q8⟩ := q2
      subst_vars
      rfl
    · have hk' : (UInt8.ofNat e.k.toNat).toNat = 4 := by rw [hkb, hk]; rfl
      obtain ⟨x0, q2, _⟩ := h4 hk
      have hn : nums e = [e.x.length] := by simp [nums, hk]
      have c2 : putB e = ([UInt8.ofNat e.k.toNat] ++ vput e.v.toNat) ++ (vput e.x.length ++ e.x) := by simp [putB, hn, putNs]
      have n2 := nxt_put (most := 300) (bad := false) c2 rfl (by omega) (by omega)
      have hl : (putB e).length = 1 + (vput e.v.toNat).length + (vput e.x.length).length + e.x.length := by rw [c2]; simp; omega
      have hd : (putB e).drop (1 + (vput e.v.toNat).length + (vput e.x.length).length) = e.x := by
        rw [c2, ← List.append_assoc, List.drop_left']
        simp
        omega
      simp only [List.length_append, List.length_cons, List.length_nil, Nat.zero_add] at n1 n2
      unfold getFields
      simp only [hk', n1, n2, if_neg (show ¬ (4 : Nat) = 1 by decide), if_neg (show ¬ (4 : Nat) = 2 by decide), if_true]
      rw [if_neg (by rw [hl]; simp), hd, List.take_length, hv]
      obtain ⟨a1, a2, a3, a4, a5, a6, a7, a8⟩ := e
      simp only at hk
      subst hk
      simp only [ent0, Ent.mk.injEq] at q2
      obtain ⟨_, _, q3, q4, q5, q6, q7, q8⟩ := q2
      subst_vars
      rfl
  obtain ⟨c, r, hb, hf⟩ := main
  unfold getE
  rw [hb]
  simp only
  rw [← hb, hf]
  simp [hput]

theorem getE_back {bs : Bs} {e : Ent} (h : getE bs = some e) : mayE e = true ∧ bs = putB e := by
  unfold getE at h
  split at h
  · cases h
  · split at h
    · cases h
    · rename_i e' bad he
      split at h
      · rename_i hc
        cases h
        have hp := hc.2
        unfold putE at hp
        split at hp
        · rename_i hm
          cases hp
          exact ⟨hm, rfl⟩
        · cases hp
      · cases h

/-! ### A frame -/

end Go.Proofs.YtlhbidbdmdcdeaaGreatDoor


/-
  The document's own May of entries. No conditions but those named in each line.
-/
namespace Go.Proofs.YtlhbidbdmdcdeaaGreatDoor
open Go Go.Abs Go.Abs.F
set_option linter.unusedVariables false
section
variable {s t : St} {x y : S} {l : Bs} {i c : Nat}

theorem st_cell {s0 u : St} {n m j : Nat} {xs : List S} {v : S} (g : Gr s0 u) (hm : u.get m = some (.cells true xs)) (hs : s0.size ≤ m) (hj : j < xs.length) (hne : n ≠ m) :
    ∃ u', aStore 1 (Z (.ptr m j)) (Z v) u = some (tt, u') ∧ u'.get m = some (.cells true (xs.set j v)) ∧ (∀ k, aLoad1 (Z (.ptr n k)) u'.get = aLoad1 (Z (.ptr n k)) u.get) ∧ u'.get n = u.get n ∧ Gr s0 u' := by
  have e := aStore1_of (σ := u) (i := m) (o := j) (x := v) hm hj
  have hn : (u.set m (.cells true (setRange xs j [v]))).get n = u.get n := St.get_set_ne _ _ hne
  refine ⟨_, e, St.get_set_same _ _ _, fun k => ?_, hn, St.wf_set g.wf (g.wf.lt hm) _, by simpa using g.2.1, fun b hb => by rw [St.get_set_ne _ _ (by omega)]; exact g.2.2 b hb⟩
  simp only [aLoad1, hn]

set_option maxHeartbeats 4000000 in
theorem rmayE_run (d : Nat) (wf : s.wf) (e : Ent) (hx : e.x.length ≤ 8000) : ∃ t, R (d + 4) 38 [AE e] s = some (B (mayE e), t) ∧ Gr s t := by
  rw [f38_run]
  unfold f38
  obtain ⟨n, hn⟩ : ∃ n, n = s.size := ⟨_, rfl⟩
  obtain ⟨s1, hs1⟩ : ∃ s1, s1 = s.push (.cells true (cE e)) := ⟨_, rfl⟩
  have nw1 : aNew s (nBox (AE e)) = some (Z (.ptr n 0), s1) := by rw [hs1, hn]; rfl
  have g1 : Gr s s1 := by rw [hs1]; exact Gr.push wf _
  have z1 : s1.size = n + 1 := by rw [hs1, hn]; rfl
  have b1 : s1.get n = some (.cells true (cE e)) := by rw [hs1, hn]; exact St.get_push_same _ _
  have fa : ∀ j, aFieldAddr j (Z (.ptr n 0)) = some (Z (.ptr n j)) := fun j => by simp [aFieldAddr]
  have fb : ∀ j, aFieldAddr j (Z (.ptr (n + 1) 0)) = some (Z (.ptr (n + 1) j)) := fun j => by simp [aFieldAddr]
  have l0 : aLoad1 (Z (.ptr n 0)) s1.get = some (I .i64 e.k) := aLoad1_of b1 rfl
  have l1 : aLoad1 (Z (.ptr n 1)) s1.get = some (I .i64 e.v) := aLoad1_of b1 rfl
  by_cases hv : e.v < 0 ∨ 1073741824 < e.v
  · have hm : mayE e = false := by unfold mayE; rw [if_pos hv]
    rw [hm]
    refine ⟨s1, ?_, g1⟩
    generalize R (d + 3) = r at *
    rcases Classical.em (e.v < 0) with h | h
    · simp [nw1, fa, l1, h, gtt]
    · have h' := hv.resolve_left h
      simp [nw1, fa, l1, h, h']
  · have v1 : ¬ e.v < 0 := fun h => hv (.inl h)
    have v2 : ¬ 1073741824 < e.v := fun h => hv (.inr h)
    obtain ⟨x0, hx0⟩ : ∃ x0 : Ent, x0 = { ent0 with k := e.k, v := e.v } := ⟨_, rfl⟩
    have ag : asAggT (aFill [.int .i64 0, .int .i64 0, .int .i64 0, .int .i64 0, .int .i64 0, .int .i64 0, .int .u32 0, .str []] [(0, 1, I .i64 e.k), (1, 1, I .i64 e.v)]) = some (AE x0) := by rw [hx0]; rfl
    obtain ⟨s2, hs2⟩ : ∃ s2, s2 = s1.push (.cells true (cE ent0)) := ⟨_, rfl⟩
    have nw2 : aNew s1 (nCells [.int .i64 0, .int .i64 0, .int .i64 0, .int .i64 0, .int .i64 0, .int .i64 0, .int .u32 0, .str []]) = some (Z (.ptr (n + 1) 0), s2) := by rw [hs2, ← z1]; rfl
    have b2 : s2.get (n + 1) = some (.cells true (cE ent0)) := by rw [hs2, ← z1]; exact St.get_push_same _ _
    have b2' : s2.get n = some (.cells true (cE e)) := by rw [hs2, St.get_push_ne _ _ (by omega)]; exact b1
    have z2 : s2.size = n + 2 := by rw [hs2]; simp [z1]
    obtain ⟨s3, hs3⟩ : ∃ s3, s3 = s2.set (n + 1) (.cells true (cE x0)) := ⟨_, rfl⟩
    have st3 := store8 (e := x0) b2 rfl
    rw [← hs3] at st3
    have b3 : s3.get (n + 1) = some (.cells true (cE x0)) := by rw [hs3]; exact St.get_set_same _ _ _
    have b3' : s3.get n = some (.cells true (cE e)) := by rw [hs3, St.get_set_ne _ _ (by omega)]; exact b2'
    have g3 : Gr s s3 := ⟨by rw [hs3, hs2]; exact St.wf_set (St.wf_push g1.wf _) (by simp [z1]) _, by rw [hs3]; simp [z2]; omega, fun b hb => by rw [hs3, St.get_set_ne _ _ (by omega), hs2, St.get_push_ne _ _ (by omega)]; exact g1.2.2 b hb⟩
    have m0 : aLoad1 (Z (.ptr n 0)) s3.get = some (I .i64 e.k) := aLoad1_of b3' rfl
    have m1 : aLoad1 (Z (.ptr n 1)) s3.get = some (I .i64 e.v) := aLoad1_of b3' rfl
    have m2 : aLoad1 (Z (.ptr n 2)) s3.get = some (I .i64 e.i) := aLoad1_of b3' rfl
    have m3 : aLoad1 (Z (.ptr n 3)) s3.get = some (I .i64 e.t) := aLoad1_of b3' rfl
    have m4 : aLoad1 (Z (.ptr n 4)) s3.get = some (I .i64 e.f) := aLoad1_of b3' rfl
    have m5 : aLoad1 (Z (.ptr n 5)) s3.get = some (I .i64 e.o) := aLoad1_of b3' rfl
    have m6 : aLoad1 (Z (.ptr n 6)) s3.get = some (I .u32 e.u) := aLoad1_of b3' rfl
    have m7 : aLoad1 (Z (.ptr n 7)) s3.get = some (Z (.str e.x)) := aLoad1_of b3' rfl
    have fin : ∀ (u : St) (w : Ent), u.get n = some (.cells true (cE e)) → u.get (n + 1) = some (.cells true (cE w)) → aLoadN 8 (Z (.ptr (n + 1) 0)) u.get = some (AE w) ∧ aLoadN 8 (Z (.ptr n 0)) u.get = some (AE e) := fun u w h h' => ⟨load8 h', load8 h⟩
    have eqn := eqBE
    by_cases k3 : e.k = 3
    · obtain ⟨f1, f2⟩ := fin s3 x0 b3' b3
      have hm : mayE e = (decide (0 < e.v) && decide (e = x0)) := by
        unfold mayE
        rw [if_neg hv, if_neg (by omega), if_neg (by omega), if_pos k3, hx0, k3]
      rw [hm]
      refine ⟨s3, ?_, g3⟩
      rw [k3] at m0
      have hk : e.k = 3 := k3
      generalize R (d + 3) = r at *
      by_cases hv1 : e.v < 1
      · have : ¬ 0 < e.v := by omega
        simp [nw1, fa, l0, l1, v1, v2, ag, nw2, st3, m0, m1, hv1, this]
      · have h0 : 0 < e.v := by omega
        have hc : decide (x0 = e) = decide (e = x0) := decide_eq_decide.2 ⟨Eq.symm, Eq.symm⟩
        simp [nw1, fa, l0, l1, v1, v2, ag, nw2, st3, m0, m1, hv1, h0, f1, f2, eqn, hc]
    · by_cases k2 : e.k = 2
      · obtain ⟨s9, e9, r9, o9, q9, g9⟩ := st_cell (n := n) (m := n + 1) (j := 2) (v := .int .i64 e.i) g3 b3 (by omega) (by rw [cE_len]; omega) (by omega)
        have hx2 : (cE x0).set 2 (.int .i64 e.i) = cE { x0 with i := e.i } := rfl
        rw [hx2] at r9
        rw [b3'] at q9
        obtain ⟨f1, f2⟩ := fin s9 _ q9 r9
        have hm : mayE e = (idOk e.i && decide (e = { x0 with i := e.i })) := by
          unfold mayE
          rw [if_neg hv, if_neg (by omega), if_pos k2, hx0, k2]
        rw [hm]
        refine ⟨s9, ?_, g9⟩
        have o2 := o9 2
        rw [m2] at o2
        rw [k2] at m0
        have hc : decide ({ x0 with i := e.i } = e) = decide (e = { x0 with i := e.i }) := decide_eq_decide.2 ⟨Eq.symm, Eq.symm⟩
        generalize ({ x0 with i := e.i } : Ent) = xx at *
        generalize R (d + 3) = r at *
        by_cases h1 : e.i < 1
        · have hid : idOk e.i = false := by unfold idOk; rw [decide_eq_false (by omega)]; rfl
          simp [nw1, fa, fb, l0, l1, v1, v2, ag, nw2, st3, m0, m2, e9, o2, h1, hid, gtt]
        · by_cases h2 : 1073741824 < e.i
          · have hid : idOk e.i = false := by unfold idOk; rw [decide_eq_false (show ¬ e.i ≤ 1073741824 by omega), Bool.and_false]
            simp [nw1, fa, fb, l0, l1, v1, v2, ag, nw2, st3, m0, m2, e9, o2, h1, h2, hid]
          · have hid : idOk e.i = true := by unfold idOk; rw [decide_eq_true (show 1 ≤ e.i by omega), decide_eq_true (show e.i ≤ 1073741824 by omega)]; rfl
            simp [nw1, fa, fb, l0, l1, v1, v2, ag, nw2, st3, m0, m2, e9, o2, h1, h2, hid, f1, f2, eqn, hc]
      · by_cases k4 : e.k = 4
        · obtain ⟨s9, e9, r9, o9, q9, g9⟩ := st_cell (n := n) (m := n + 1) (j := 7) (v := .str e.x) g3 b3 (by omega) (by rw [cE_len]; omega) (by omega)
          have hx2 : (cE x0).set 7 (.str e.x) = cE { x0 with x := e.x } := rfl
          rw [hx2] at r9
          rw [b3'] at q9
          obtain ⟨s11, e11, g11⟩ := rparse_run (l := e.x) d g9.wf hx
          rw [rparseP_eq] at e11
          obtain ⟨s12, hs12⟩ : ∃ s12, s12 = s11.push (.cells true (cP pol0)) := ⟨_, rfl⟩
          have nw12 : aNew s11 (nCells [.int .i64 0, .int .i64 0, .int .i64 0, .int .i64 0, .int .i64 0, .int .i64 0]) = some (Z (.ptr s11.size 0), s12) := by rw [hs12]; rfl
          have b12 : s12.get s11.size = some (.cells true (cP pol0)) := by rw [hs12]; exact St.get_push_same _ _
          obtain ⟨s13, hs13⟩ : ∃ s13, s13 = s12.set s11.size (.cells true (cP (parseP e.x).1)) := ⟨_, rfl⟩
          have st13 := store6 (p := (parseP e.x).1) b12 rfl
          rw [← hs13] at st13
          have g13 : Gr s11 s13 := ⟨by rw [hs13, hs12]; exact St.wf_set (St.wf_push g11.wf _) (by simp) _, by rw [hs13, hs12]; simp, fun b hb => by rw [hs13, St.get_set_ne _ _ (by omega), hs12, St.get_push_ne _ _ (by omega)]⟩
          have gg := g11.trans g13
          have q13 : s13.get n = some (.cells true (cE e)) := by rw [gg.2.2 _ (g9.wf.lt q9)]; exact q9
          have r13 : s13.get (n + 1) = some (.cells true (cE { x0 with x := e.x })) := by rw [gg.2.2 _ (g9.wf.lt r9)]; exact r9
          obtain ⟨f1, f2⟩ := fin s13 _ q13 r13
          have o7 := o9 7
          rw [m7] at o7
          have p7 : aLoad1 (Z (.ptr n 7)) s13.get = some (Z (.str e.x)) := aLoad1_of q13 rfl
          have hm : mayE e = (decide (e.x.length ≤ 300) && decide (e = { x0 with x := e.x }) && decide ((parseP e.x).2.1 = 0)) := by
            unfold mayE
            rw [if_neg hv, if_neg (by omega), if_neg (by omega), if_neg (by omega), if_pos k4, hx0, k4]
          rw [hm]
          refine ⟨s13, ?_, g9.trans gg⟩
          rw [k4] at m0
          have hc : decide ({ x0 with x := e.x } = e) = decide (e = { x0 with x := e.x }) := decide_eq_decide.2 ⟨Eq.symm, Eq.symm⟩
          have hl : aLenStr (Z (.str e.x)) = some (I .i64 ((e.x.length : Nat) : Int)) := rfl
          have h300 : decide ((300 : Int) < ((e.x.length : Nat) : Int)) = !decide (e.x.length ≤ 300) := by
            by_cases h : e.x.length ≤ 300
            · rw [decide_eq_true h, decide_eq_false (by omega)]; rfl
            · rw [decide_eq_false h, decide_eq_true (by omega)]; rfl
          simp only [resP] at e11
          generalize ({ x0 with x := e.x } : Ent) = xx at *
          generalize ((e.x.length : Nat) : Int) = XL at *
          generalize R (d + 3) = r at *
          generalize decide (e.x.length ≤ 300) = b300 at *
          by_cases hp : (parseP e.x).2.1 = 0
          · rw [hp] at e11
            cases b300 with
            | true =>
              have h300' : decide ((300 : Int) < XL) = false := h300
              simp [nw1, fa, fb, l0, l1, v1, v2, ag, nw2, st3, m0, m7, e9, o7, e11, aExtract, nw12, st13, p7, hl, h300', f1, f2, eqn, hc, hp]
            | false =>
              have h300' : decide ((300 : Int) < XL) = true := h300
              simp [nw1, fa, fb, l0, l1, v1, v2, ag, nw2, st3, m0, m7, e9, o7, e11, aExtract, nw12, st13, p7, hl, h300', hp]
          · simp [nw1, fa, fb, l0, l1, v1, v2, ag, nw2, st3, m0, m7, e9, o7, e11, aExtract, nw12, st13, hp, gtt]
        · by_cases k1 : e.k = 1
          · obtain ⟨s4, e4, r4, o4, q4, g4⟩ := st_cell (n := n) (m := n + 1) (j := 2) (v := .int .i64 e.i) g3 b3 (by omega) (by rw [cE_len]; omega) (by omega)
            obtain ⟨s5, e5, r5, o5, q5, g5⟩ := st_cell (n := n) (m := n + 1) (j := 3) (v := .int .i64 e.t) g4 r4 (by omega) (by simp [cE]) (by omega)
            obtain ⟨s6, e6, r6, o6, q6, g6⟩ := st_cell (n := n) (m := n + 1) (j := 4) (v := .int .i64 e.f) g5 r5 (by omega) (by simp [cE]) (by omega)
            obtain ⟨s7, e7, r7, o7, q7, g7⟩ := st_cell (n := n) (m := n + 1) (j := 5) (v := .int .i64 e.o) g6 r6 (by omega) (by simp [cE]) (by omega)
            obtain ⟨s8, e8, r8, o8, q8, g8⟩ := st_cell (n := n) (m := n + 1) (j := 6) (v := .int .u32 e.u) g7 r7 (by omega) (by simp [cE]) (by omega)
            have hx2 : (((((cE x0).set 2 (.int .i64 e.i)).set 3 (.int .i64 e.t)).set 4 (.int .i64 e.f)).set 5 (.int .i64 e.o)).set 6 (.int .u32 e.u) = cE { x0 with i := e.i, t := e.t, f := e.f, o := e.o, u := e.u } := rfl
            rw [hx2] at r8
            rw [q7, q6, q5, q4, b3'] at q8
            obtain ⟨f1, f2⟩ := fin s8 _ q8 r8
            have O5 : ∀ k, aLoad1 (Z (.ptr n k)) s5.get = aLoad1 (Z (.ptr n k)) s3.get := fun k => (o5 k).trans (o4 k)
            have O6 : ∀ k, aLoad1 (Z (.ptr n k)) s6.get = aLoad1 (Z (.ptr n k)) s3.get := fun k => (o6 k).trans (O5 k)
            have O7 : ∀ k, aLoad1 (Z (.ptr n k)) s7.get = aLoad1 (Z (.ptr n k)) s3.get := fun k => (o7 k).trans (O6 k)
            have O8 : ∀ k, aLoad1 (Z (.ptr n k)) s8.get = aLoad1 (Z (.ptr n k)) s3.get := fun k => (o8 k).trans (O7 k)
            have hm : mayE e = (decide (e.x = []) && idOk e.i && decide (0 ≤ e.t) && decide (e.t < 4) && decide (0 ≤ e.f) && decide (e.f < e.o) && decide (e.o ≤ 1099511627776)) := by
              unfold mayE
              rw [if_neg hv, if_pos k1]
            have hc : decide ({ x0 with i := e.i, t := e.t, f := e.f, o := e.o, u := e.u } = e) = decide (e.x = []) := by
              refine decide_eq_decide.2 ⟨fun h => ?_, fun h => ?_⟩
              · have := congrArg Ent.x h
                rw [hx0] at this
                exact this.symm
              · rw [hx0]
                show Ent.mk e.k e.v e.i e.t e.f e.o e.u [] = e
                rw [← h]
            rw [hm]
            refine ⟨s8, ?_, g8⟩
            rw [k1] at m0
            clear o5 o6 o7 o8 r4 r5 r6 r7 q4 q5 q6 q7 hx2
            generalize ({ x0 with i := e.i, t := e.t, f := e.f, o := e.o, u := e.u } : Ent) = xx at *
            generalize R (d + 3) = r at *
            have hid : idOk e.i = (decide (1 ≤ e.i) && decide (e.i ≤ 1073741824)) := rfl
            rw [hid]
            by_cases h1 : e.i < 1
            · have : ¬ 1 ≤ e.i := by omega
              simp [nw1, fa, fb, l0, l1, v1, v2, ag, nw2, st3, m0, m2, m3, m4, m5, m6, e4, e5, e6, e7, e8, o4, O5, O6, O7, O8, h1, this, gtt]
            · have h1' : 1 ≤ e.i := by omega
              by_cases h2 : 1073741824 < e.i
              · have : ¬ e.i ≤ 1073741824 := by omega
                simp [nw1, fa, fb, l0, l1, v1, v2, ag, nw2, st3, m0, m2, m3, m4, m5, m6, e4, e5, e6, e7, e8, o4, O5, O6, O7, O8, h1, h2, this, gtt]
              · have h2' : e.i ≤ 1073741824 := by omega
                by_cases h3 : e.t < 0
                · have : ¬ 0 ≤ e.t := by omega
                  simp [nw1, fa, fb, l0, l1, v1, v2, ag, nw2, st3, m0, m2, m3, m4, m5, m6, e4, e5, e6, e7, e8, o4, O5, O6, O7, O8, h1, h2, h3, this, gtt]
                · have h3' : 0 ≤ e.t := by omega
                  by_cases h4 : 3 < e.t
                  · have : ¬ e.t < 4 := by omega
                    simp [nw1, fa, fb, l0, l1, v1, v2, ag, nw2, st3, m0, m2, m3, m4, m5, m6, e4, e5, e6, e7, e8, o4, O5, O6, O7, O8, h1, h2, h3, h4, this, gtt]
                  · have h4' : e.t < 4 := by omega
                    by_cases h5 : e.f < 0
                    · have : ¬ 0 ≤ e.f := by omega
                      simp [nw1, fa, fb, l0, l1, v1, v2, ag, nw2, st3, m0, m2, m3, m4, m5, m6, e4, e5, e6, e7, e8, o4, O5, O6, O7, O8, h1, h2, h3, h4, h5, this, gtt]
                    · have h5' : 0 ≤ e.f := by omega
                      by_cases h6 : e.o ≤ e.f
                      · have : ¬ e.f < e.o := by omega
                        simp [nw1, fa, fb, l0, l1, v1, v2, ag, nw2, st3, m0, m2, m3, m4, m5, m6, e4, e5, e6, e7, e8, o4, O5, O6, O7, O8, h1, h2, h3, h4, h5, h6, this, gtt]
                      · have h6' : e.f < e.o := by omega
                        by_cases h7 : 1099511627776 < e.o
                        · have : ¬ e.o ≤ 1099511627776 := by omega
                          simp [nw1, fa, fb, l0, l1, v1, v2, ag, nw2, st3, m0, m2, m3, m4, m5, m6, e4, e5, e6, e7, e8, o4, O5, O6, O7, O8, h1, h2, h3, h4, h5, h6, h7, this, gtt]
                        · have h7' : e.o ≤ 1099511627776 := by omega
                          simp [nw1, fa, fb, l0, l1, v1, v2, ag, nw2, st3, m0, m2, m3, m4, m5, m6, e4, e5, e6, e7, e8, o4, O5, O6, O7, O8, h1, h2, h3, h4, h5, h6, h7, h1', h2', h3', h4', h5', h6', h7', f1, f2, eqn, hc]
          · have hm : mayE e = false := by
              unfold mayE
              rw [if_neg hv, if_neg k1, if_neg k2, if_neg k3, if_neg k4]
            rw [hm]
            refine ⟨s3, ?_, g3⟩
            generalize R (d + 3) = r at *
            simp [nw1, fa, fb, l0, l1, v1, v2, ag, nw2, st3, m0, k1, k2, k3, k4]
end
end Go.Proofs.YtlhbidbdmdcdeaaGreatDoor


/-
  A state of entries in a store: what is asked, what comes next. No conditions but those named in each line.
-/
namespace Go.Proofs.YtlhbidbdmdcdeaaGreatDoor
open Go Go.Abs Go.Abs.F
set_option linter.unusedVariables false

def mapE (ever : List Int) : List (S × V) := ever.map fun i => (S.int .i64 i, V.s (.bool true))
def cF (x : S) (mp : Nat) (q : FoS) : List S := [x, .map mp, .int .i64 q.rule.a0, .int .i64 q.rule.a1, .int .i64 q.rule.a2, .int .i64 q.rule.a3, .int .i64 q.rule.c, .int .i64 q.rule.n, .int .i64 q.v, .int .i64 q.w]

theorem find_ever (i : Int) : ∀ (l : List Int) (k : Nat), (i ∈ l → ∃ j, aFind (.int .i64 i) (mapE l) k = some (some (j, V.s (.bool true)))) ∧ (i ∉ l → aFind (.int .i64 i) (mapE l) k = some none)
  | [], k => ⟨fun h => by simp at h, fun _ => rfl⟩
  | a :: l, k => by
    obtain ⟨h1, h2⟩ := find_ever i l (k + 1)
    by_cases e : i = a
    · subst e
      refine ⟨fun _ => ⟨k, by simp [mapE, aFind, keyEq]⟩, fun h => (h (by simp)).elim⟩
    · have hk : aFind (.int .i64 i) (mapE (a :: l)) k = aFind (.int .i64 i) (mapE l) (k + 1) := by simp [mapE, aFind, keyEq, e]
      rw [hk]
      exact ⟨fun h => h1 (by rcases List.mem_cons.1 h with h | h; exact (e h).elim; exact h), fun h => h2 fun hh => h (List.mem_cons_of_mem _ hh)⟩

theorem look_ever {g : Mem} {mp : Nat} {ever : List Int} (h : g mp = some (.map (mapE ever))) (i : Int) : Go.Abs.F.look .i false (.s (.bool false)) (Z (.map mp)) (I .i64 i) g = some (B (decide (i ∈ ever))) := by
  obtain ⟨h1, h2⟩ := find_ever i ever 0
  have hk : isKey .i (I .i64 i) = true := rfl
  unfold Go.Abs.F.look
  rw [if_pos hk]
  by_cases hi : i ∈ ever
  · obtain ⟨j, hj⟩ := h1 hi
    simp only [aLookup, h, hj, decide_eq_true hi]
    rfl
  · simp only [aLookup, h, h2 hi, decide_eq_false hi]
    rfl

section
variable {s0 s t : St} {b mp : Nat} {q : FoS} {x y : S} {e : Ent}

theorem mset_ever {ever : List Int} (h : s.get mp = some (.map (mapE ever))) {i : Int} (hi : i ∉ ever) : mset .i (Z (.map mp)) (I .i64 i) (B true) s = some (tt, s.set mp (.map (mapE (ever ++ [i])))) := by
  obtain ⟨_, h2⟩ := find_ever i ever 0
  have hk : isKey .i (I .i64 i) = true := rfl
  unfold mset
  rw [if_pos hk]
  simp only [aMapSet, h, h2 hi]
  simp [mapE]

structure HF (s0 s : St) (b : Nat) (q : FoS) (x : S) (mp : Nat) : Prop where
  gr : Gr s0 s
  hb : s0.size ≤ b
  hm : s0.size ≤ mp
  st : s.get b = some (.cells true (cF x mp q))
  mpE : s.get mp = some (.map (mapE q.ever))
  ins : InS s x q.l
  ow : ∀ c, own x = some c → s0.size ≤ c ∧ c ≠ b ∧ c ≠ mp

theorem HF.bm (h : HF s0 s b q x mp) : b ≠ mp := fun e => by
  have h1 := h.st
  rw [e, h.mpE] at h1
  cases h1

theorem HF.gr' (h : HF s0 s b q x mp) (g : Gr s t) : HF s0 t b q x mp :=
  ⟨h.gr.trans g, h.hb, h.hm, g.get h.st h.gr.wf, g.get h.mpE h.gr.wf, h.ins.keep fun c hc => g.2.2 c (h.ins.lt h.gr.wf hc), h.ow⟩

theorem stAt_run (d : Nat) (h : HF s0 s b q x mp) (hl : q.l.length ≤ 8000) (id : Int) : ∃ k t, R (d + 3) 73 [Z (.ptr b 0), I .i64 id] s = some (.tup [.s (.int .i64 ((k : Nat) : Int)), .s (.bool (hitI q.l id k))], t) ∧ Gr s t ∧ Found q.l id k := by
  obtain ⟨k, t, e1, g, f⟩ := bsf_run d h.gr.wf h.ins hl id
  refine ⟨k, t, ?_, g, f⟩
  rw [f73_run]
  unfold f73
  have l0 : aLoad1 (Z (.ptr b 0)) s.get = some (Z x) := aLoad1_of h.st rfl
  generalize R (d + 2) = r at *
  generalize ((k : Nat) : Int) = K at *
  simp [l0, e1, aExtract, retT, allV]

set_option maxHeartbeats 1000000 in
theorem stAsks_run (d : Nat) (h : HF s0 s b q x mp) (hq : FOk q) (hl : q.l.length ≤ 8000) (e : Ent) : ∃ t, R (d + 9) 72 [Z (.ptr b 0), AE e] s = some (I .i64 (asksP q e), t) ∧ Gr s t := by
  rw [f72_run]
  unfold f72
  obtain ⟨n, hn⟩ : ∃ n, n = s.size := ⟨_, rfl⟩
  obtain ⟨s1, hs1⟩ : ∃ s1, s1 = s.push (.cells true (cE e)) := ⟨_, rfl⟩
  have nw1 : aNew s (nBox (AE e)) = some (Z (.ptr n 0), s1) := by rw [hs1, hn]; rfl
  have g1 : Gr s s1 := by rw [hs1]; exact Gr.push h.gr.wf _
  have b1 : s1.get n = some (.cells true (cE e)) := by rw [hs1, hn]; exact St.get_push_same _ _
  have l1 : aLoad1 (Z (.ptr n 2)) s1.get = some (I .i64 e.i) := aLoad1_of b1 rfl
  obtain ⟨k, s2, e2, g2, hF⟩ := stAt_run (d + 5) (h.gr' g1) hl e.i
  have b2 : s2.get n = some (.cells true (cE e)) := g2.get b1 g1.wf
  have l2 := load8 (g := s2.get) b2
  obtain ⟨s3, e3, g3⟩ := mayE_run d g2.wf e
  have b3 : s3.get n = some (.cells true (cE e)) := g3.get b2 g2.wf
  have h3 := ((h.gr' g1).gr' g2).gr' g3
  have k3 : aLoad1 (Z (.ptr n 0)) s3.get = some (I .i64 e.k) := aLoad1_of b3 rfl
  have v3 : aLoad1 (Z (.ptr n 1)) s3.get = some (I .i64 e.v) := aLoad1_of b3 rfl
  have i3 : aLoad1 (Z (.ptr n 2)) s3.get = some (I .i64 e.i) := aLoad1_of b3 rfl
  have m3 : aLoad1 (Z (.ptr b 1)) s3.get = some (Z (.map mp)) := aLoad1_of h3.st rfl
  have w3 : aLoad1 (Z (.ptr b 9)) s3.get = some (I .i64 q.w) := aLoad1_of h3.st rfl
  have lk := look_ever h3.mpE e.i
  refine ⟨s3, ?_, (g1.trans g2).trans g3⟩
  simp only [Nat.add_assoc, Nat.reduceAdd] at e2
  unfold asksP
  cases hm : mayE e with
  | false =>
    rw [hm] at e3
    generalize R (d + 8) = r at *
    generalize ((k : Nat) : Int) = K at *
    generalize hitI q.l e.i k = hit at *
    simp [nw1, l1, e2, aExtract, l2, e3]
  | true =>
    rw [hm] at e3
    obtain ⟨v0, v1, k0, k1, q1, q2, q3, q4⟩ := mayE_range hm
    rcases (by omega : e.k = 1 ∨ e.k = 2 ∨ e.k = 3 ∨ e.k = 4) with hk | hk | hk | hk
    · by_cases hi : e.i ∈ q.ever
      · rw [decide_eq_true hi] at lk
        generalize R (d + 8) = r at *
        generalize ((k : Nat) : Int) = K at *
        generalize hitI q.l e.i k = hit at *
        simp [nw1, l1, e2, aExtract, l2, e3, k3, hk, m3, i3, lk, hi]
      · rw [decide_eq_false hi] at lk
        generalize R (d + 8) = r at *
        generalize ((k : Nat) : Int) = K at *
        generalize hitI q.l e.i k = hit at *
        by_cases hv : e.v < q.w
        · simp [nw1, l1, e2, aExtract, l2, e3, k3, hk, m3, i3, lk, hi, v3, w3, hv]
        · simp [nw1, l1, e2, aExtract, l2, e3, k3, hk, m3, i3, lk, hi, v3, w3, hv]
    · obtain ⟨i0, i1, _⟩ := q2 hk
      obtain ⟨_, hh⟩ := found_eq hF hq.up hq.rng i0 i1
      rw [hh] at e2
      generalize R (d + 8) = r at *
      generalize ((k : Nat) : Int) = K at *
      cases ht : thereP q.l e.i with
      | false =>
        rw [ht] at e2
        simp [nw1, l1, e2, aExtract, l2, e3, k3, hk, m3, i3, v3, w3]
      | true =>
        rw [ht] at e2
        by_cases hv : e.v < q.w
        · simp [nw1, l1, e2, aExtract, l2, e3, k3, hk, m3, i3, v3, w3, hv]
        · simp [nw1, l1, e2, aExtract, l2, e3, k3, hk, m3, i3, v3, w3, hv]
    · generalize R (d + 8) = r at *
      generalize ((k : Nat) : Int) = K at *
      generalize hitI q.l e.i k = hit at *
      by_cases hv : e.v < q.w
      · simp [nw1, l1, e2, aExtract, l2, e3, k3, hk, m3, i3, v3, w3, hv]
      · simp [nw1, l1, e2, aExtract, l2, e3, k3, hk, m3, i3, v3, w3, hv]
    · generalize R (d + 8) = r at *
      generalize ((k : Nat) : Int) = K at *
      generalize hitI q.l e.i k = hit at *
      by_cases hv : e.v < q.w
      · simp [nw1, l1, e2, aExtract, l2, e3, k3, hk, m3, i3, v3, w3, hv]
      · simp [nw1, l1, e2, aExtract, l2, e3, k3, hk, m3, i3, v3, w3, hv]
end
end Go.Proofs.YtlhbidbdmdcdeaaGreatDoor


/-
  The state that takes an entry. No conditions but those named in each line.
-/
namespace Go.Proofs.YtlhbidbdmdcdeaaGreatDoor
open Go Go.Abs Go.Abs.F
set_option linter.unusedVariables false
section
variable {s0 s t : St} {b mp : Nat} {q : FoS} {x y : S} {e : Ent}

theorem stSet {σ : St} {q' : FoS} {o : Nat} {x' z : S} (h : σ.get b = some (.cells true (cF x mp q))) (ho : o < 10) (hz : setRange (cF x mp q) o [z] = cF x' mp q') : aStore 1 (Z (.ptr b o)) (Z z) σ = some (tt, σ.set b (.cells true (cF x' mp q'))) := by
  rw [aStore1_of h (by simpa [cF] using ho), hz]

set_option maxHeartbeats 2000000 in
theorem next_run' (d : Nat) (h : HF s0 s b q x mp) (hq : FOk q) (hl : q.ever.length ≤ 8000) (e : Ent) : ∃ t y, R (d + 10) 47 [Z (.ptr b 0), AE e] s = some (I .i64 (asksP q e), t) ∧ HF s0 t b (if asksP q e = 0 then nextP q e else q) y mp := by
  rw [f47_run]
  unfold f47
  have hll : q.l.length ≤ 8000 := Nat.le_trans hq.len hl
  obtain ⟨n, hn⟩ : ∃ n, n = s.size := ⟨_, rfl⟩
  obtain ⟨s1, hs1⟩ : ∃ s1, s1 = s.push (.cells true (cE e)) := ⟨_, rfl⟩
  have nw1 : aNew s (nBox (AE e)) = some (Z (.ptr n 0), s1) := by rw [hs1, hn]; rfl
  have g1 : Gr s s1 := by rw [hs1]; exact Gr.push h.gr.wf _
  have b1 : s1.get n = some (.cells true (cE e)) := by rw [hs1, hn]; exact St.get_push_same _ _
  have l1 := load8 (g := s1.get) b1
  have h1 := h.gr' g1
  obtain ⟨s2, e2, g2⟩ := stAsks_run d h1 hq hll e
  have h2 := h1.gr' g2
  have b2 : s2.get n = some (.cells true (cE e)) := g2.get b1 g1.wf
  by_cases ha : asksP q e = 0
  · rw [if_pos ha]
    rw [ha] at e2 ⊢
    have i2 : aLoad1 (Z (.ptr n 2)) s2.get = some (I .i64 e.i) := aLoad1_of b2 rfl
    obtain ⟨k, s3, e3, g3, hF⟩ := stAt_run (d + 6) h2 hll e.i
    have h3 := h2.gr' g3
    have b3 : s3.get n = some (.cells true (cE e)) := g3.get b2 g2.wf
    have hns3 := g3.wf.lt b3
    have k3 : aLoad1 (Z (.ptr n 0)) s3.get = some (I .i64 e.k) := aLoad1_of b3 rfl
    have hm : mayE e = true := by
      unfold asksP at ha
      by_cases hm : mayE e = true
      · exact hm
      · rw [if_neg hm] at ha; cases ha
    obtain ⟨v0, v1, k0, k1, q1, q2, q3, q4⟩ := mayE_range hm
    have hbs := h.gr.wf.lt h.st
    have hms := h.gr.wf.lt h.mpE
    have hbn : b ≠ n := by omega
    have hmn : mp ≠ n := by omega
    have hxn : ∀ c, own x = some c → c < n := fun c hc => by rw [hn]; exact h.ins.lt h.gr.wf hc
    have hbm := h.bm
    simp only [Nat.add_assoc, Nat.reduceAdd] at e3
    have fin : ∀ (σ : St) (y : S) (q' : FoS), HF s0 σ b q' y mp → σ.get n = some (.cells true (cE e)) → ∃ τ, aStore 1 (Z (.ptr b 9)) (I .i64 e.v) σ = some (tt, τ) ∧ aLoad1 (Z (.ptr n 1)) σ.get = some (I .i64 e.v) ∧ HF s0 τ b ⟨q'.l, q'.ever, q'.rule, q'.v, e.v⟩ y mp := fun σ y q' H hb => by
      refine ⟨_, stSet (q' := ⟨q'.l, q'.ever, q'.rule, q'.v, e.v⟩) (x' := y) H.st (by omega) rfl, aLoad1_of hb rfl, ?_⟩
      have hbσ := H.gr.wf.lt H.st
      exact ⟨⟨St.wf_set H.gr.wf hbσ _, by simpa using H.gr.2.1, fun c hc => by rw [St.get_set_ne _ _ (by have := H.hb; omega)]; exact H.gr.2.2 c hc⟩, H.hb, H.hm, St.get_set_same _ _ _, by rw [St.get_set_ne _ _ (Ne.symm H.bm)]; exact H.mpE,
        H.ins.keep fun c hc => St.get_set_ne _ _ (H.ow c hc).2.1, H.ow⟩
    unfold nextP
    rcases (by omega : e.k = 1 ∨ e.k = 2 ∨ e.k = 3 ∨ e.k = 4) with hk | hk | hk | hk
    · -- a segment comes
      rw [if_pos hk]
      obtain ⟨hx0, i0, i1, _⟩ := q1 hk
      have hni : e.i ∉ q.ever := by
        unfold asksP at ha
        rw [if_pos hm] at ha
        intro hin
        rw [if_pos ⟨hk, hin⟩] at ha
        cases ha
      obtain ⟨hkk, _⟩ := found_eq hF hq.up hq.rng i0 i1
      subst hkk
      have m3 : aLoad1 (Z (.ptr b 1)) s3.get = some (Z (.map mp)) := aLoad1_of h3.st rfl
      have i3 : aLoad1 (Z (.ptr n 2)) s3.get = some (I .i64 e.i) := aLoad1_of b3 rfl
      have ms := mset_ever h3.mpE hni
      obtain ⟨s4, hs4⟩ : ∃ s4, s4 = s3.set mp (.map (mapE (q.ever ++ [e.i]))) := ⟨_, rfl⟩
      rw [← hs4] at ms
      have hms3 := g3.wf.lt h3.mpE
      have o4 : ∀ c, c ≠ mp → s4.get c = s3.get c := fun c hc => by rw [hs4]; exact St.get_set_ne _ _ hc
      have wf4 : s4.wf := by rw [hs4]; exact St.wf_set g3.wf hms3 _
      have z4 : s4.size = s3.size := by rw [hs4]; simp
      have b4 : s4.get n = some (.cells true (cE e)) := by rw [o4 n (Ne.symm hmn)]; exact b3
      have st4 : s4.get b = some (.cells true (cF x mp q)) := by rw [o4 b hbm]; exact h3.st
      have x4 : aLoad1 (Z (.ptr b 0)) s4.get = some (Z x) := aLoad1_of st4 rfl
      have f2 : aLoad1 (Z (.ptr n 2)) s4.get = some (I .i64 e.i) := aLoad1_of b4 rfl
      have f3 : aLoad1 (Z (.ptr n 3)) s4.get = some (I .i64 e.t) := aLoad1_of b4 rfl
      have f4 : aLoad1 (Z (.ptr n 4)) s4.get = some (I .i64 e.f) := aLoad1_of b4 rfl
      have f5 : aLoad1 (Z (.ptr n 5)) s4.get = some (I .i64 e.o) := aLoad1_of b4 rfl
      have f6 : aLoad1 (Z (.ptr n 6)) s4.get = some (I .u32 e.u) := aLoad1_of b4 rfl
      have ag : asAggT (aFill [.int .i64 0, .int .i64 0, .int .i64 0, .int .i64 0, .int .u32 0] [(0, 1, I .i64 e.i), (1, 1, I .i64 e.t), (2, 1, I .i64 e.f), (3, 1, I .i64 e.o), (4, 1, I .u32 e.u)]) = some (AI (infE e)) := rfl
      obtain ⟨s5, hs5⟩ : ∃ s5, s5 = s4.push (.cells true (cI (infE e))) := ⟨_, rfl⟩
      have nw5 : aNew s4 (nSlice 1 (aFill [.int .i64 0, .int .i64 0, .int .i64 0, .int .i64 0, .int .u32 0] [(0, 5, AI (infE e))])) = some (Z (.sl s4.size 0 1 (.known 1)), s5) := by rw [hs5]; rfl
      have g5 : Gr s4 s5 := by rw [hs5]; exact Gr.push wf4 _
      have j5 : s5.get s4.size = some (.cells true (cI (infE e))) := by rw [hs5]; exact St.get_push_same _ _
      have ins4 : InS s4 x q.l := h3.ins.keep fun c hc => o4 c (h.ow c hc).2.2
      have ins5 : InS s5 x q.l := ins4.keep fun c hc => g5.2.2 c (ins4.lt wf4 hc)
      obtain ⟨y, s6, e6, N6⟩ := ins_run (d + 8) g5.wf ins5 hll (kOf_le q.l e.i) j5 (fun c hc => by have := ins4.lt wf4 hc; omega)
      have z5 : s4.size < s5.size := by rw [hs5]; simp
      have xb : own x ≠ some b := fun hc => (h.ow b hc).2.1 rfl
      have xm : own x ≠ some mp := fun hc => (h.ow mp hc).2.2 rfl
      have xn : own x ≠ some n := fun hc => by have := hxn n hc; omega
      have st6 : s6.get b = some (.cells true (cF x mp q)) := by rw [N6.old b (by omega) xb, g5.2.2 b (by omega)]; exact st4
      have mp6 : s6.get mp = some (.map (mapE (q.ever ++ [e.i]))) := by rw [N6.old mp (by omega) xm, g5.2.2 mp (by omega), hs4]; exact St.get_set_same _ _ _
      have b6 : s6.get n = some (.cells true (cE e)) := by rw [N6.old n (by omega) xn, g5.2.2 n (by omega)]; exact b4
      obtain ⟨Q, hQ⟩ : ∃ Q : FoS, Q = ⟨insL q.l (infE e), q.ever ++ [e.i], q.rule, q.v, q.w⟩ := ⟨_, rfl⟩
      have sS := stSet (q' := Q) (x' := y) (z := y) st6 (show 0 < 10 by omega) (by rw [hQ]; rfl)
      obtain ⟨s7, hs7⟩ : ∃ s7, s7 = s6.set b (.cells true (cF y mp Q)) := ⟨_, rfl⟩
      rw [← hs7] at sS
      have yo : ∀ c, own y = some c → s0.size ≤ c ∧ c ≠ b ∧ c ≠ mp := fun c hc => by
        rcases N6.new c hc with hx | hx
        · exact h.ow c hx
        · have := h.hb; have := h.hm; have := h.gr.2.1
          exact ⟨by omega, by omega, by omega⟩
      have H7 : HF s0 s7 b Q y mp := by
        have hb6 := N6.wf.lt st6
        refine ⟨⟨by rw [hs7]; exact St.wf_set N6.wf hb6 _, ?_, fun c hc => ?_⟩, h.hb, h.hm, by rw [hs7]; exact St.get_set_same _ _ _, ?_, ?_, yo⟩
        · rw [hs7]
          have := h.gr.2.1; have := g1.2.1; have := g2.2.1; have := g3.2.1; have := N6.le
          simp only [St.size_set]; omega
        · have h01 := h.gr.2.1
          rw [hs7, St.get_set_ne _ _ (by have := h.hb; omega), N6.old c (by omega) (fun hc' => by have := (h.ow c hc').1; omega), g5.2.2 c (by omega), o4 c (by have := h.hm; omega)]
          exact h3.gr.2.2 c hc
        · rw [hs7, St.get_set_ne _ _ (Ne.symm hbm), mp6, hQ]
        · rw [hQ]
          exact N6.ins.keep fun c hc => by rw [hs7]; exact St.get_set_ne _ _ (yo c hc).2.1
      have b7 : s7.get n = some (.cells true (cE e)) := by rw [hs7, St.get_set_ne _ _ (Ne.symm hbn)]; exact b6
      obtain ⟨s8, st8, ld8, H8⟩ := fin s7 y Q H7 b7
      rw [hQ] at H8
      refine ⟨s8, y, ?_, H8⟩
      clear fin
      simp only [Nat.add_assoc, Nat.reduceAdd] at e6
      generalize R (d + 9) = r at *
      generalize ((kOf q.l e.i : Nat) : Int) = K at *
      generalize hitI q.l e.i (kOf q.l e.i) = hit at *
      simp [nw1, l1, e2, i2, e3, aExtract, k3, hk, m3, i3, ms, x4, f2, f3, f4, f5, f6, ag, nw5, e6, sS, ld8, st8, gtt]
    · -- a segment goes
      rw [if_neg (by omega), if_pos hk]
      obtain ⟨i0, i1, _⟩ := q2 hk
      obtain ⟨hkk, hhit⟩ := found_eq hF hq.up hq.rng i0 i1
      have hth : thereP q.l e.i = true := by
        unfold asksP at ha
        rw [if_pos hm, if_neg (by omega)] at ha
        cases ht : thereP q.l e.i with
        | true => rfl
        | false => rw [if_pos ⟨hk, ht⟩] at ha; cases ha
      subst hkk
      have hkl := kOf_lt hq.up hth
      have x3 : aLoad1 (Z (.ptr b 0)) s3.get = some (Z x) := aLoad1_of h3.st rfl
      have w1 : IntKind.i64.wrap (((kOf q.l e.i : Nat) : Int) + 1) = ((kOf q.l e.i + 1 : Nat) : Int) := by rw [wrap_in _ (by omega) (by omega)]; omega
      obtain ⟨y, s6, e6, N6⟩ := del_run (d + 8) g3.wf h3.ins hll hkl
      have xb : own x ≠ some b := fun hc => (h.ow b hc).2.1 rfl
      have xm : own x ≠ some mp := fun hc => (h.ow mp hc).2.2 rfl
      have xn : own x ≠ some n := fun hc => by have := hxn n hc; omega
      have hb3 := g3.wf.lt h3.st
      have hm3 := g3.wf.lt h3.mpE
      have st6 : s6.get b = some (.cells true (cF x mp q)) := by rw [N6.old b hb3 xb]; exact h3.st
      have mp6 : s6.get mp = some (.map (mapE q.ever)) := by rw [N6.old mp hm3 xm]; exact h3.mpE
      have b6 : s6.get n = some (.cells true (cE e)) := by rw [N6.old n hns3 xn]; exact b3
      obtain ⟨Q, hQ⟩ : ∃ Q : FoS, Q = ⟨delL q.l e.i, q.ever, q.rule, q.v, q.w⟩ := ⟨_, rfl⟩
      have sS := stSet (q' := Q) (x' := y) (z := y) st6 (show 0 < 10 by omega) (by rw [hQ]; rfl)
      obtain ⟨s7, hs7⟩ : ∃ s7, s7 = s6.set b (.cells true (cF y mp Q)) := ⟨_, rfl⟩
      rw [← hs7] at sS
      have yo : ∀ c, own y = some c → s0.size ≤ c ∧ c ≠ b ∧ c ≠ mp := fun c hc => by
        rcases N6.new c hc with hx | hx
        · exact h.ow c hx
        · have := h.hb; have := h.hm; have := h3.gr.2.1
          exact ⟨by omega, by omega, by omega⟩
      have H7 : HF s0 s7 b Q y mp := by
        have hb6 := N6.wf.lt st6
        refine ⟨⟨by rw [hs7]; exact St.wf_set N6.wf hb6 _, ?_, fun c hc => ?_⟩, h.hb, h.hm, by rw [hs7]; exact St.get_set_same _ _ _, ?_, ?_, yo⟩
        · rw [hs7]
          have := h3.gr.2.1; have := N6.le
          simp only [St.size_set]; omega
        · have h03 := h3.gr.2.1
          rw [hs7, St.get_set_ne _ _ (by have := h.hb; omega), N6.old c (by omega) (fun hc' => by have := (h.ow c hc').1; omega)]
          exact h3.gr.2.2 c hc
        · rw [hs7, St.get_set_ne _ _ (Ne.symm hbm), mp6, hQ]
        · rw [hQ]
          exact N6.ins.keep fun c hc => by rw [hs7]; exact St.get_set_ne _ _ (yo c hc).2.1
      have b7 : s7.get n = some (.cells true (cE e)) := by rw [hs7, St.get_set_ne _ _ (Ne.symm hbn)]; exact b6
      obtain ⟨s8, st8, ld8, H8⟩ := fin s7 y Q H7 b7
      rw [hQ] at H8
      refine ⟨s8, y, ?_, H8⟩
      clear fin
      simp only [Nat.add_assoc, Nat.reduceAdd] at e6
      generalize R (d + 9) = r at *
      generalize ((kOf q.l e.i + 1 : Nat) : Int) = K1 at *
      generalize ((kOf q.l e.i : Nat) : Int) = K at *
      generalize hitI q.l e.i (kOf q.l e.i) = hit at *
      simp [nw1, l1, e2, i2, e3, aExtract, k3, hk, x3, w1, e6, sS, ld8, st8, gtt]
    · -- a view
      rw [if_neg (by omega), if_neg (by omega), if_pos hk]
      have v3 : aLoad1 (Z (.ptr n 1)) s3.get = some (I .i64 e.v) := aLoad1_of b3 rfl
      obtain ⟨Q, hQ⟩ : ∃ Q : FoS, Q = ⟨q.l, q.ever, q.rule, e.v, q.w⟩ := ⟨_, rfl⟩
      have sS := stSet (q' := Q) (x' := x) (z := .int .i64 e.v) h3.st (show 8 < 10 by omega) (by rw [hQ]; rfl)
      obtain ⟨s7, hs7⟩ : ∃ s7, s7 = s3.set b (.cells true (cF x mp Q)) := ⟨_, rfl⟩
      rw [← hs7] at sS
      have H7 : HF s0 s7 b Q x mp := by
        have hb3 := g3.wf.lt h3.st
        refine ⟨⟨by rw [hs7]; exact St.wf_set g3.wf hb3 _, by rw [hs7]; simpa using h3.gr.2.1, fun c hc => by rw [hs7, St.get_set_ne _ _ (by have := h.hb; omega)]; exact h3.gr.2.2 c hc⟩, h.hb, h.hm, by rw [hs7]; exact St.get_set_same _ _ _, ?_, ?_, h.ow⟩
        · rw [hs7, St.get_set_ne _ _ (Ne.symm hbm), h3.mpE, hQ]
        · rw [hQ]
          exact h3.ins.keep fun c hc => by rw [hs7]; exact St.get_set_ne _ _ (h.ow c hc).2.1
      have b7 : s7.get n = some (.cells true (cE e)) := by rw [hs7, St.get_set_ne _ _ (Ne.symm hbn)]; exact b3
      obtain ⟨s8, st8, ld8, H8⟩ := fin s7 x Q H7 b7
      rw [hQ] at H8
      refine ⟨s8, x, ?_, H8⟩
      clear fin
      generalize R (d + 9) = r at *
      generalize ((k : Nat) : Int) = K at *
      generalize hitI q.l e.i k = hit at *
      simp [nw1, l1, e2, i2, e3, aExtract, k3, hk, v3, sS, ld8, st8, gtt]
    · -- a rule
      rw [if_neg (by omega), if_neg (by omega), if_neg (by omega)]
      have x3 : aLoad1 (Z (.ptr n 7)) s3.get = some (Z (.str e.x)) := aLoad1_of b3 rfl
      have hxl := mayE_x hm
      obtain ⟨s4, e4, g4⟩ := parse_run (d + 2) g3.wf (l := e.x) (by omega)
      have h4 := h3.gr' g4
      have b4 : s4.get n = some (.cells true (cE e)) := g4.get b3 g3.wf
      obtain ⟨Q, hQ⟩ : ∃ Q : FoS, Q = ⟨q.l, q.ever, (parseP e.x).1, q.v, q.w⟩ := ⟨_, rfl⟩
      obtain ⟨p, hp⟩ : ∃ p, p = (parseP e.x).1 := ⟨_, rfl⟩
      rw [← hp] at e4 hQ
      have sS : aStore 6 (Z (.ptr b 2)) (AP p) s4 = some (tt, s4.set b (.cells true (cF x mp Q))) := by
        simp only [aStore, h4.st]
        rw [if_pos ⟨rfl, by simp [cF]⟩, hQ]
        rfl
      obtain ⟨s7, hs7⟩ : ∃ s7, s7 = s4.set b (.cells true (cF x mp Q)) := ⟨_, rfl⟩
      rw [← hs7] at sS
      have H7 : HF s0 s7 b Q x mp := by
        have hb3 := g4.wf.lt h4.st
        refine ⟨⟨by rw [hs7]; exact St.wf_set g4.wf hb3 _, by rw [hs7]; simpa using h4.gr.2.1, fun c hc => by rw [hs7, St.get_set_ne _ _ (by have := h.hb; omega)]; exact h4.gr.2.2 c hc⟩, h.hb, h.hm, by rw [hs7]; exact St.get_set_same _ _ _, ?_, ?_, h.ow⟩
        · rw [hs7, St.get_set_ne _ _ (Ne.symm hbm), h4.mpE, hQ]
        · rw [hQ]
          exact h4.ins.keep fun c hc => by rw [hs7]; exact St.get_set_ne _ _ (h.ow c hc).2.1
      have b7 : s7.get n = some (.cells true (cE e)) := by rw [hs7, St.get_set_ne _ _ (Ne.symm hbn)]; exact b4
      obtain ⟨s8, st8, ld8, H8⟩ := fin s7 x Q H7 b7
      rw [hQ, hp] at H8
      refine ⟨s8, x, ?_, H8⟩
      clear fin
      simp only [Nat.add_assoc, Nat.reduceAdd] at e4
      generalize R (d + 9) = r at *
      generalize ((k : Nat) : Int) = K at *
      generalize hitI q.l e.i k = hit at *
      simp [nw1, l1, e2, i2, e3, aExtract, k3, hk, x3, e4, sS, ld8, st8, gtt]
  · rw [if_neg ha]
    refine ⟨s2, x, ?_, h2⟩
    generalize R (d + 9) = r at *
    simp [nw1, l1, e2, ha]
end
end Go.Proofs.YtlhbidbdmdcdeaaGreatDoor


/-
  What entries come to. No conditions but those named in each line.
-/
namespace Go.Proofs.YtlhbidbdmdcdeaaGreatDoor
open Go Go.Abs Go.Abs.F
set_option linter.unusedVariables false
section
variable {s0 s t : St} {b mp : Nat} {q : FoS} {x y a : S} {l : List Inf}

theorem begin_run (d : Nat) (wf : s.wf) : ∃ b mp t, R (d + 2) 46 [] s = some (Z (.ptr b 0), t) ∧ HF s t b fs0 .nils mp := by
  rw [f46_run]
  unfold f46
  obtain ⟨s1, hs1⟩ : ∃ s1, s1 = s.push (.map []) := ⟨_, rfl⟩
  have nw1 : aNew s nMap = some (Z (.map s.size), s1) := by rw [hs1]; rfl
  have g1 : Gr s s1 := by rw [hs1]; exact Gr.push wf _
  have m1 : s1.get s.size = some (.map []) := by rw [hs1]; exact St.get_push_same _ _
  obtain ⟨s2, e2, g2⟩ := default_run d g1.wf
  have m2 := g2.get m1 g1.wf
  have hz := g2.wf.lt m2
  obtain ⟨s3, hs3⟩ : ∃ s3, s3 = s2.push (.cells true (cF .nils s.size fs0)) := ⟨_, rfl⟩
  have ag : asAggT (aFill [.nils, .nilm, .int .i64 0, .int .i64 0, .int .i64 0, .int .i64 0, .int .i64 0, .int .i64 0, .int .i64 0, .int .i64 0] [(1, 1, Z (.map s.size)), (2, 6, AP polD)]) = some (.v (.agg (cF .nils s.size fs0))) := rfl
  have nw3 : aNew s2 (nBox (.v (.agg (cF .nils s.size fs0)))) = some (Z (.ptr s2.size 0), s3) := by rw [hs3]; rfl
  have g3 : Gr s2 s3 := by rw [hs3]; exact Gr.push g2.wf _
  refine ⟨s2.size, s.size, s3, ?_, (g1.trans g2).trans g3, (g1.trans g2).2.1, Nat.le_refl _, by rw [hs3]; exact St.get_push_same _ _, g3.get m2 g2.wf, .inl ⟨rfl, rfl⟩, fun c hc => by cases hc⟩
  generalize R (d + 1) = r at *
  simp [nw1, e2, ag, nw3]

theorem clone_run (d : Nat) (wf : s.wf) (h : InS s x l) (hl : l.length ≤ 8000) : ∃ y t, R (d + 1) 76 [Z x] s = some (Z y, t) ∧ Fr 5 s t y l.length (cells cI l) := by
  rw [f76_run]
  unfold f76
  have hrd := h.rd
  have hlt : ∀ c, own x = some c → c < s.size := fun c hc => h.lt wf hc
  have hcl := cells_len (e := 5) cI_len l
  rcases h with ⟨rfl, rfl⟩ | ⟨c, vs, rfl, hb, ht⟩
  · refine ⟨.nils, s, ?_, Fr.nil 5 wf⟩
    have : eqB .l (Z .nils) (Z .nils) = some (B true) := rfl
    simp [this]
  · have f0 := Fr.lit 5 wf (n := 0) (vs := []) rfl
    obtain ⟨y, t, e, f, _⟩ := f0.append (by_ := 40) (by omega) (hrd.gr hlt f0.gr).src hcl (by omega)
    have nw : aNew s (nSlice 0 (aFill [] [])) = some (Z (.sl s.size 0 0 (.known 0)), s.push (.cells true [])) := rfl
    have q1 : eqB .l (Z (.sl c 0 l.length (.grown 5))) (Z .nils) = some (B false) := rfl
    simp only [Nat.zero_add, List.nil_append] at f
    refine ⟨y, t, ?_, f⟩
    simp [q1, nw, e]

theorem infos_run (d : Nat) (h : HF s0 s b q x mp) (hl : q.l.length ≤ 8000) : ∃ y t, R (d + 2) 48 [Z (.ptr b 0)] s = some (Z y, t) ∧ Fr 5 s t y q.l.length (cells cI q.l) := by
  obtain ⟨y, t, e, f⟩ := clone_run d h.gr.wf h.ins hl
  refine ⟨y, t, ?_, f⟩
  rw [f48_run]
  unfold f48
  have l0 : aLoad1 (Z (.ptr b 0)) s.get = some (Z x) := aLoad1_of h.st rfl
  generalize R (d + 1) = r at *
  simp [l0, e]

theorem rule_load {g : Mem} (h : g b = some (.cells true (cF x mp q))) : aLoadN 6 (Z (.ptr b 2)) g = some (AP q.rule) := by
  simp only [aLoadN, h]
  rw [if_pos (by simp [cF])]
  rfl

def resFo (r : Int × FoS) (y : S) : T := if r.1 = 0 then .tup [.s y, .agg (cP r.2.rule), .s (.int .i64 r.2.v), .s (.int .i64 0)] else .tup [.s .nils, .agg (cP pol0), .s (.int .i64 0), .s (.int .i64 r.1)]

set_option maxHeartbeats 1000000 in
theorem fold_run (d : Nat) (wf : s.wf) {es : List Ent} (ha : RE s a es) (hoa : ∀ c, own a = some c → c < s.size) (hl : es.length ≤ 8000) : ∃ y t, R (d + 11) 28 [Z a] s = some (resFo (foldGo fs0 es) y, t) ∧ Gr s t ∧
    ((foldGo fs0 es).1 = 0 → Fr 5 s t y (foldGo fs0 es).2.l.length (cells cI (foldGo fs0 es).2.l)) := by
  rw [f28_run]
  unfold f28
  obtain ⟨rp, hrp⟩ : ∃ rp, rp = s.size := ⟨_, rfl⟩
  obtain ⟨s1, hs1⟩ : ∃ s1, s1 = s.push (.cells true (cP pol0)) := ⟨_, rfl⟩
  have nw1 : aNew s (nCells [.int .i64 0, .int .i64 0, .int .i64 0, .int .i64 0, .int .i64 0, .int .i64 0]) = some (Z (.ptr rp 0), s1) := by rw [hs1, hrp]; rfl
  have g1 : Gr s s1 := by rw [hs1]; exact Gr.push wf _
  have r1 : s1.get rp = some (.cells true (cP pol0)) := by rw [hs1, hrp]; exact St.get_push_same _ _
  have z1 : rp < s1.size := g1.wf.lt r1
  obtain ⟨b, mp0, s2, e2, h2⟩ := begin_run (d + 8) g1.wf
  simp only [Nat.add_assoc, Nat.reduceAdd] at e2
  have ll := ha.lens
  obtain ⟨j, τ, lp, hj⟩ := loops_inv (f := f28_l1 (R (d + 10)) 8192)
    (fun q v u => ∃ (k : Nat) (qs : FoS) (x : S) (mp : Nat), q + k = es.length ∧ v = [Z (.ptr rp 0), Z (.ptr b 0), Z a, I .i64 ((es.length : Nat) : Int), I .i64 ((k : Nat) : Int)] ∧ HF s1 u b qs x mp ∧ FOk qs ∧ qs.ever.length ≤ k ∧ foldGo qs (es.drop k) = foldGo fs0 es)
    (fun j u => (∃ (qs : FoS) (x : S) (mp : Nat), j = .exit 0 [Z (.ptr rp 0), Z (.ptr b 0)] ∧ HF s1 u b qs x mp ∧ qs.l.length ≤ 8000 ∧ foldGo fs0 es = (0, qs)) ∨ (j = .ret (resFo (foldGo fs0 es) .nils) ∧ (foldGo fs0 es).1 ≠ 0 ∧ Gr s u)) (by
    rintro q v u ⟨k, qs, x, mp, hk, rfl, H, hok, hev, hgo⟩
    by_cases hkl : k < es.length
    · have hc : es[k]? = some es[k] := List.getElem?_eq_getElem hkl
      obtain ⟨e, he⟩ : ∃ e, e = es[k] := ⟨_, rfl⟩
      rw [← he] at hc
      have hdr : es.drop k = e :: es.drop (k + 1) := by rw [List.drop_eq_getElem_cons hkl, he]
      have hau : RE u a es := (ha.gr hoa g1).gr (fun c hc => Nat.lt_of_lt_of_le (hoa c hc) g1.2.1) H.gr
      obtain ⟨p, ix, ld⟩ := hau.atE (n := ((k : Nat) : Int)) rfl hc
      have c0 : ((k : Nat) : Int) < ((es.length : Nat) : Int) := by omega
      have w1 : IntKind.i64.wrap ((k : Int) + 1) = ((k + 1 : Nat) : Int) := by rw [wrap_in _ (by omega) (by omega)]; omega
      obtain ⟨u1, hu1⟩ : ∃ u1, u1 = u.push (.cells true (cE ent0)) := ⟨_, rfl⟩
      have nw3 : aNew u (nCells [.int .i64 0, .int .i64 0, .int .i64 0, .int .i64 0, .int .i64 0, .int .i64 0, .int .u32 0, .str []]) = some (Z (.ptr u.size 0), u1) := by rw [hu1]; rfl
      have b1 : u1.get u.size = some (.cells true (cE ent0)) := by rw [hu1]; exact St.get_push_same _ _
      have gu1 : Gr u u1 := by rw [hu1]; exact Gr.push H.gr.wf _
      obtain ⟨u2, hu2⟩ : ∃ u2, u2 = u1.set u.size (.cells true (cE e)) := ⟨_, rfl⟩
      have st2 : aStore 8 (Z (.ptr u.size 0)) (AE e) u1 = some (tt, u2) := by rw [hu2]; exact store8 b1 rfl
      have gu2 : Gr u u2 := by
        rw [hu2]
        exact ⟨St.wf_set gu1.wf (gu1.wf.lt b1) _, by simpa using gu1.2.1, fun c hc => by rw [St.get_set_ne _ _ (by omega)]; exact gu1.2.2 c hc⟩
      have l2 : aLoadN 8 (Z (.ptr u.size 0)) u2.get = some (AE e) := load8 (by rw [hu2]; exact St.get_set_same _ _ _)
      obtain ⟨u3, y, e3, H3⟩ := next_run' d (H.gr' gu2) hok (by omega) e
      rw [hdr] at hgo
      have hgo' : (if asksP qs e = 0 then foldGo (nextP qs e) (es.drop (k + 1)) else (asksP qs e, qs)) = foldGo fs0 es := hgo
      by_cases hz : asksP qs e = 0
      · left
        rw [if_pos hz] at H3 hgo'
        rw [hz] at e3
        refine ⟨[Z (.ptr rp 0), Z (.ptr b 0), Z a, I .i64 ((es.length : Nat) : Int), I .i64 ((k + 1 : Nat) : Int)], u3, q - 1, ?_, by omega, k + 1, nextP qs e, y, mp, by omega, rfl, H3, next_ok hok hz, by have := next_ever (q := qs) (e := e); omega, hgo'⟩
        unfold f28_l1
        clear hgo hgo' hdr
        generalize R (d + 10) = r at *
        generalize ((k + 1 : Nat) : Int) = K1 at *
        generalize ((k : Nat) : Int) = K at *
        generalize ((es.length : Nat) : Int) = LL at *
        generalize u.size = us at *
        simp [c0, ix, ld, nw3, st2, gtt, l2, e3, w1]
      · right
        rw [if_neg hz] at H3 hgo'
        have r3 : u3.get rp = some (.cells true (cP pol0)) := by rw [H3.gr.2.2 rp z1]; exact r1
        have sr : aStore 6 (Z (.ptr rp 0)) (AP pol0) u3 = some (tt, u3.set rp (.cells true (cP pol0))) := store6 r3 rfl
        obtain ⟨u4, hu4⟩ : ∃ u4, u4 = u3.set rp (.cells true (cP pol0)) := ⟨_, rfl⟩
        rw [← hu4] at sr
        have lr : aLoadN 6 (Z (.ptr rp 0)) u4.get = some (AP pol0) := load6 (by rw [hu4]; exact St.get_set_same _ _ _)
        have g04 : Gr s u4 := by
          rw [hu4]
          have h13 := g1.trans H3.gr
          exact ⟨St.wf_set h13.wf (by have := H3.gr.2.1; omega) _, by simpa using h13.2.1, fun c hc => by rw [St.get_set_ne _ _ (by omega)]; exact h13.2.2 c hc⟩
        refine ⟨.ret (resFo (foldGo fs0 es) .nils), u4, ?_, (fun v hv => by cases hv), .inr ⟨rfl, by rw [← hgo']; exact hz, g04⟩⟩
        have hres : resFo (foldGo fs0 es) .nils = .tup [.s .nils, .agg (cP pol0), .s (.int .i64 0), .s (.int .i64 (asksP qs e))] := by
          rw [← hgo']
          exact if_neg hz
        rw [hres]
        unfold f28_l1
        clear hgo hgo' hdr hres
        generalize R (d + 10) = r at *
        generalize ((k + 1 : Nat) : Int) = K1 at *
        generalize ((k : Nat) : Int) = K at *
        generalize ((es.length : Nat) : Int) = LL at *
        generalize u.size = us at *
        generalize asksP qs e = C at *
        simp [c0, ix, ld, nw3, st2, gtt, l2, e3, hz, agg6, sr, lr, rC, rT, retT, allV]
    · right
      have hke : k = es.length := by omega
      have c0 : ¬ ((k : Nat) : Int) < ((es.length : Nat) : Int) := by omega
      rw [List.drop_eq_nil_of_le (by omega)] at hgo
      refine ⟨.exit 0 [Z (.ptr rp 0), Z (.ptr b 0)], u, ?_, (fun v hv => by cases hv), .inl ⟨qs, x, mp, rfl, H, by have := hok.len; omega, hgo.symm⟩⟩
      unfold f28_l1
      simp [c0]) 8192 es.length [Z (.ptr rp 0), Z (.ptr b 0), Z a, I .i64 ((es.length : Nat) : Int), I .i64 0] s2
    ⟨0, fs0, .nils, mp0, by omega, rfl, h2, fs0_ok, Nat.le_refl _, by rw [List.drop_zero]⟩ (by omega)
  rcases hj with ⟨qs, x, mp, rfl, H, hql, hgo⟩ | ⟨rfl, hne, g⟩
  · obtain ⟨y, t, e4, f4⟩ := infos_run (d + 8) H hql
    simp only [Nat.add_assoc, Nat.reduceAdd] at e4
    have H4 := H.gr' f4.gr
    have a1 := rule_load H.st
    have a2 := rule_load H4.st
    have v1 : aLoad1 (Z (.ptr b 8)) τ.get = some (I .i64 qs.v) := aLoad1_of H.st rfl
    have v2 : aLoad1 (Z (.ptr b 8)) t.get = some (I .i64 qs.v) := aLoad1_of H4.st rfl
    have r4 : t.get rp = some (.cells true (cP pol0)) := by rw [H4.gr.2.2 rp z1]; exact r1
    have sr : aStore 6 (Z (.ptr rp 0)) (AP qs.rule) t = some (tt, t.set rp (.cells true (cP qs.rule))) := store6 r4 rfl
    obtain ⟨u4, hu4⟩ : ∃ u4, u4 = t.set rp (.cells true (cP qs.rule)) := ⟨_, rfl⟩
    rw [← hu4] at sr
    have hbr : b ≠ rp := by have := H.hb; omega
    have v3 : aLoad1 (Z (.ptr b 8)) u4.get = some (I .i64 qs.v) := aLoad1_of (by rw [hu4, St.get_set_ne _ _ hbr]; exact H4.st) rfl
    have lr : aLoadN 6 (Z (.ptr rp 0)) u4.get = some (AP qs.rule) := load6 (by rw [hu4]; exact St.get_set_same _ _ _)
    have h14 := g1.trans H4.gr
    have hr4 := h14.wf.lt r4
    have g04 : Gr s u4 := by
      rw [hu4]
      exact ⟨St.wf_set h14.wf hr4 _, by simpa using h14.2.1, fun c hc => by rw [St.get_set_ne _ _ (by omega)]; exact h14.2.2 c hc⟩
    rw [hgo]
    have hres : resFo ((0 : Int), qs) y = .tup [.s y, .agg (cP qs.rule), .s (.int .i64 qs.v), .s (.int .i64 0)] := rfl
    refine ⟨y, u4, ?_, g04, fun _ => ?_⟩
    · rw [hres]
      clear hgo hres
      generalize R (d + 10) = r at *
      generalize ((es.length : Nat) : Int) = LL at *
      simp [nw1, e2, ll, lp, e4, a1, a2, v1, v2, v3, sr, gtt, lr, rC, rT, retT, allV]
    · have hτ : rp < τ.size := by have := H.gr.2.1; omega
      refine ⟨g04, f4.ow.keep fun c hc => ?_, fun c hc => ?_⟩
      · have := (f4.new c hc).1
        rw [hu4, St.get_set_ne _ _ (by omega)]
      · have := f4.new c hc
        have := H.gr.2.1
        have := g1.2.1
        rw [hu4]
        simp only [St.size_set]
        omega
  · refine ⟨.nils, τ, ?_, g, fun h => (hne h).elim⟩
    generalize resFo (foldGo fs0 es) .nils = RF at *
    generalize R (d + 10) = r at *
    generalize ((es.length : Nat) : Int) = LL at *
    simp [nw1, e2, ll, lp]
end
end Go.Proofs.YtlhbidbdmdcdeaaGreatDoor

