/-
  Several texts in one: what functions that the law reaches compute. No conditions but those named in each line.
-/
import Derived.Test.YtlhbidbdmdcdeaaGreatDoorFnsC
import Derived.Test.YtlhbidbdmdcdeaaGreatDoorFnsD
import Derived.Test.YtlhbidbdmdcdeaaGreatDoorFnsA
import Derived.Shelf.Strings.OnBuilder
import Derived.Shelf.Strings.Search3
import Derived.Shelf.Strings.Count
import Derived.Test.YtlhbidbdmdcdeaaGreatDoorProg
/-
  The document's own Fold. No conditions but those named in each line.
-/
namespace Go.Proofs.YtlhbidbdmdcdeaaGreatDoor
open Go Go.Abs Go.Abs.F
set_option linter.unusedVariables false
section
variable {s t : St} {x y a : S}

structure RH (sb u : St) (rp pp : Nat) (q : FoS) (out ev : S) : Prop where
  wf : u.wf
  le : sb.size ≤ u.size
  old : ∀ c, c < sb.size → c ≠ pp → u.get c = sb.get c
  rule : u.get pp = some (.cells true (cP q.rule))
  lst : RI u out q.l
  lown : ∀ c, own out = some c → sb.size ≤ c ∧ c < u.size
  evs : Ow 1 u ev q.ever.length (I64I q.ever)
  eown : ∀ c, own ev = some c → sb.size ≤ c ∧ c < u.size
  dis : ∀ c, own ev = some c → own out ≠ some c

theorem RH.gr {sb u t : St} {rp pp : Nat} {q : FoS} {out ev : S} (h : RH sb u rp pp q out ev) (hp : pp < sb.size) (g : Gr u t) : RH sb t rp pp q out ev :=
  ⟨g.wf, Nat.le_trans h.le g.2.1, fun c hc hne => by rw [g.2.2 c (Nat.lt_of_lt_of_le hc h.le)]; exact h.old c hc hne, g.get h.rule h.wf, Rd.gr h.lst (fun c hc => (h.lown c hc).2) g, fun c hc => ⟨(h.lown c hc).1, Nat.lt_of_lt_of_le (h.lown c hc).2 g.2.1⟩,
    h.evs.gr h.wf g, fun c hc => ⟨(h.eown c hc).1, Nat.lt_of_lt_of_le (h.eown c hc).2 g.2.1⟩, h.dis⟩

set_option maxHeartbeats 8000000 in
theorem rfold_run (d : Nat) (wf : s.wf) {es : List Ent} (ha : RE s a es) (hoa : ∀ c, own a = some c → c < s.size) (hl : es.length ≤ 8000) (hx : ∀ e ∈ es, e.x.length ≤ 8000) : ∃ y t, R (d + 5) 35 [Z a] s = some (resFo (foldGo fs0 es) y, t) ∧ Gr s t ∧
    ((foldGo fs0 es).1 = 0 → RI t y (foldGo fs0 es).2.l ∧ ∀ c, own y = some c → c < t.size) := by
  rw [f35_run]
  unfold f35
  obtain ⟨rp, hrp⟩ : ∃ rp, rp = s.size := ⟨_, rfl⟩
  obtain ⟨s1, hs1⟩ : ∃ s1, s1 = s.push (.cells true (cP pol0)) := ⟨_, rfl⟩
  have nw1 : aNew s (nCells [.int .i64 0, .int .i64 0, .int .i64 0, .int .i64 0, .int .i64 0, .int .i64 0]) = some (Z (.ptr rp 0), s1) := by rw [hs1, hrp]; rfl
  have g1 : Gr s s1 := by rw [hs1]; exact Gr.push wf _
  have r1 : s1.get rp = some (.cells true (cP pol0)) := by rw [hs1, hrp]; exact St.get_push_same _ _
  obtain ⟨s2, e2, g2⟩ := rdefault_run (d + 3) g1.wf
  have r2 := g2.get r1 g1.wf
  obtain ⟨pp, hpp⟩ : ∃ pp, pp = s2.size := ⟨_, rfl⟩
  obtain ⟨s3, hs3⟩ : ∃ s3, s3 = s2.push (.cells true (cP pol0)) := ⟨_, rfl⟩
  have nw3 : aNew s2 (nCells [.int .i64 0, .int .i64 0, .int .i64 0, .int .i64 0, .int .i64 0, .int .i64 0]) = some (Z (.ptr pp 0), s3) := by rw [hs3, hpp]; rfl
  have g3 : Gr s2 s3 := by rw [hs3]; exact Gr.push g2.wf _
  have p3 : s3.get pp = some (.cells true (cP pol0)) := by rw [hs3, hpp]; exact St.get_push_same _ _
  obtain ⟨sb, hsb⟩ : ∃ sb, sb = s3.set pp (.cells true (cP polD)) := ⟨_, rfl⟩
  have st4 : aStore 6 (Z (.ptr pp 0)) (AP polD) s3 = some (tt, sb) := by rw [hsb]; exact store6 p3 rfl
  have hp3 := g3.wf.lt p3
  have wfb : sb.wf := by rw [hsb]; exact St.wf_set g3.wf hp3 _
  have zb : sb.size = s3.size := by rw [hsb]; simp
  have gb : Gr s sb := by
    refine ⟨wfb, by rw [zb]; exact Nat.le_trans (g1.trans g2).2.1 g3.2.1, fun c hc => ?_⟩
    have := (g1.trans g2).2.1
    rw [hsb, St.get_set_ne _ _ (by omega)]
    exact ((g1.trans g2).trans g3).2.2 c hc
  have rpl : rp < s2.size := g2.wf.lt r2
  have rpp : rp ≠ pp := by omega
  have rpb : rp < sb.size := by have := g3.2.1; omega
  have ppb : pp < sb.size := by omega
  have rb : sb.get rp = some (.cells true (cP pol0)) := by rw [hsb, St.get_set_ne _ _ rpp]; exact g3.get r2 g2.wf
  have pb : sb.get pp = some (.cells true (cP polD)) := by rw [hsb]; exact St.get_set_same _ _ _
  have ll := ha.lens
  obtain ⟨j, τ, lp, hj⟩ := loops_inv (f := f35_l1 (R (d + 4)) 8192)
    (fun q v u => ∃ (k : Nat) (qs : FoS) (out ev : S), q + k = es.length ∧ v = [Z a, Z (.ptr rp 0), Z out, Z ev, Z (.ptr pp 0), I .i64 qs.v, I .i64 qs.w, I .i64 ((k : Nat) : Int)] ∧ RH sb u rp pp qs out ev ∧ FOk qs ∧ qs.ever.length ≤ k ∧ foldGo qs (es.drop k) = foldGo fs0 es)
    (fun j u => (∃ (qs : FoS) (out ev : S), j = .exit 0 [Z (.ptr rp 0), Z out, Z (.ptr pp 0), I .i64 qs.v] ∧ RH sb u rp pp qs out ev ∧ foldGo fs0 es = (0, qs)) ∨ (j = .ret (resFo (foldGo fs0 es) .nils) ∧ (foldGo fs0 es).1 ≠ 0 ∧ Gr s u)) (by
    rintro q v u ⟨k, qs, out, ev, hk, rfl, H, hok, hev, hgo⟩
    by_cases hkl : k < es.length
    · have hc : es[k]? = some es[k] := List.getElem?_eq_getElem hkl
      obtain ⟨e, he⟩ : ∃ e, e = es[k] := ⟨_, rfl⟩
      rw [← he] at hc
      have hxe := hx e (List.mem_of_getElem? hc)
      have hdr : es.drop k = e :: es.drop (k + 1) := by rw [List.drop_eq_getElem_cons hkl, he]
      have hau : RE u a es := ha.keep fun c hc => by
        have h1 := hoa c hc
        rw [H.old c (by have := gb.2.1; omega) (by omega)]
        exact gb.2.2 c h1
      have llu := hau.lens
      obtain ⟨p, ix, ld⟩ := hau.atE (n := ((k : Nat) : Int)) rfl hc
      have c0 : ((k : Nat) : Int) < ((es.length : Nat) : Int) := by omega
      have w1 : IntKind.i64.wrap ((k : Int) + 1) = ((k + 1 : Nat) : Int) := by rw [wrap_in _ (by omega) (by omega)]; omega
      obtain ⟨n, hn⟩ : ∃ n, n = u.size := ⟨_, rfl⟩
      obtain ⟨u1, hu1⟩ : ∃ u1, u1 = u.push (.cells true (cE ent0)) := ⟨_, rfl⟩
      have nwe : aNew u (nCells [.int .i64 0, .int .i64 0, .int .i64 0, .int .i64 0, .int .i64 0, .int .i64 0, .int .u32 0, .str []]) = some (Z (.ptr n 0), u1) := by rw [hu1, hn]; rfl
      have b1 : u1.get n = some (.cells true (cE ent0)) := by rw [hu1, hn]; exact St.get_push_same _ _
      have gu1 : Gr u u1 := by rw [hu1]; exact Gr.push H.wf _
      obtain ⟨u2, hu2⟩ : ∃ u2, u2 = u1.set n (.cells true (cE e)) := ⟨_, rfl⟩
      have ste : aStore 8 (Z (.ptr n 0)) (AE e) u1 = some (tt, u2) := by rw [hu2]; exact store8 b1 rfl
      have gu2 : Gr u u2 := by
        rw [hu2]
        exact ⟨St.wf_set gu1.wf (gu1.wf.lt b1) _, by simpa using gu1.2.1, fun c hc => by rw [St.get_set_ne _ _ (by omega)]; exact gu1.2.2 c hc⟩
      have b2 : u2.get n = some (.cells true (cE e)) := by rw [hu2]; exact St.get_set_same _ _ _
      have f2i : aLoad1 (Z (.ptr n 2)) u2.get = some (I .i64 e.i) := aLoad1_of b2 rfl
      have H2 := H.gr ppb gu2
      have hll : qs.l.length ≤ 8000 := by have := hok.len; omega
      have ef := rfind_run (d + 3) H2.lst hll e.i
      rw [find_eq qs.l e.i 0 hok.up] at ef
      have l2 : aLoadN 8 (Z (.ptr n 0)) u2.get = some (AE e) := load8 b2
      obtain ⟨u3, em, g3'⟩ := rmayE_run d gu2.wf e hxe
      have H3 := H2.gr ppb g3'
      have b3 : u3.get n = some (.cells true (cE e)) := g3'.get b2 gu2.wf
      have n3 := H3.wf.lt b3
      have k3 : aLoad1 (Z (.ptr n 0)) u3.get = some (I .i64 e.k) := aLoad1_of b3 rfl
      have v3 : aLoad1 (Z (.ptr n 1)) u3.get = some (I .i64 e.v) := aLoad1_of b3 rfl
      have i3 : aLoad1 (Z (.ptr n 2)) u3.get = some (I .i64 e.i) := aLoad1_of b3 rfl
      have x3 : aLoad1 (Z (.ptr n 7)) u3.get = some (Z (.str e.x)) := aLoad1_of b3 rfl
      have hsl : (I64I qs.ever).length = qs.ever.length := by simp
      have eh := rhas_run (d + 3) (s := u3) (x := ev) (is := qs.ever) H3.evs.rd (by omega) e.i
      rw [hdr] at hgo
      have hgo' : (if asksP qs e = 0 then foldGo (nextP qs e) (es.drop (k + 1)) else (asksP qs e, qs)) = foldGo fs0 es := hgo
      have kol := kOf_le qs.l e.i
      simp only [Nat.add_assoc, Nat.reduceAdd, Nat.zero_add] at ef em eh
      -- the ways to fail
      have rr3 : u3.get rp = some (.cells true (cP pol0)) := by rw [H3.old rp rpb rpp]; exact rb
      have sr : aStore 6 (Z (.ptr rp 0)) (AP pol0) u3 = some (tt, u3.set rp (.cells true (cP pol0))) := store6 rr3 rfl
      obtain ⟨u4, hu4⟩ : ∃ u4, u4 = u3.set rp (.cells true (cP pol0)) := ⟨_, rfl⟩
      rw [← hu4] at sr
      have lr : aLoadN 6 (Z (.ptr rp 0)) u4.get = some (AP pol0) := load6 (by rw [hu4]; exact St.get_set_same _ _ _)
      have g04 : Gr s u4 := by
        rw [hu4]
        have hb := gb.2.1
        have hle := H3.le
        exact ⟨St.wf_set H3.wf (by omega) _, by simp only [St.size_set]; omega, fun c hc => by rw [St.get_set_ne _ _ (by omega), H3.old c (by omega) (by omega)]; exact gb.2.2 c hc⟩
      have fail : ∀ C : Int, asksP qs e = C → C ≠ 0 → f35_l1 (R (d + 4)) 8192 [Z a, Z (.ptr rp 0), Z out, Z ev, Z (.ptr pp 0), I .i64 qs.v, I .i64 qs.w, I .i64 ((k : Nat) : Int)] u = some (.ret (.tup [.s .nils, .agg (cP pol0), .s (.int .i64 0), .s (.int .i64 C)]), u4) →
          ∃ j s', f35_l1 (R (d + 4)) 8192 [Z a, Z (.ptr rp 0), Z out, Z ev, Z (.ptr pp 0), I .i64 qs.v, I .i64 qs.w, I .i64 ((k : Nat) : Int)] u = some (j, s') ∧ (∀ v, j ≠ .normal v) ∧
            ((∃ (qs : FoS) (out ev : S), j = .exit 0 [Z (.ptr rp 0), Z out, Z (.ptr pp 0), I .i64 qs.v] ∧ RH sb s' rp pp qs out ev ∧ foldGo fs0 es = (0, qs)) ∨ (j = .ret (resFo (foldGo fs0 es) .nils) ∧ (foldGo fs0 es).1 ≠ 0 ∧ Gr s s')) := fun C hC hC0 hrun => by
        rw [hC, if_neg hC0] at hgo'
        refine ⟨_, _, hrun, (fun v hv => by cases hv), .inr ⟨?_, by rw [← hgo']; exact hC0, g04⟩⟩
        rw [← hgo']
        have : resFo (C, qs) .nils = .tup [.s .nils, .agg (cP pol0), .s (.int .i64 0), .s (.int .i64 C)] := if_neg hC0
        rw [this]
      have okk : ∀ (out' ev' : S) (u' : St), asksP qs e = 0 → RH sb u' rp pp (nextP qs e) out' ev' → f35_l1 (R (d + 4)) 8192 [Z a, Z (.ptr rp 0), Z out, Z ev, Z (.ptr pp 0), I .i64 qs.v, I .i64 qs.w, I .i64 ((k : Nat) : Int)] u = some (.normal [Z a, Z (.ptr rp 0), Z out', Z ev', Z (.ptr pp 0), I .i64 (nextP qs e).v, I .i64 (nextP qs e).w, I .i64 ((k + 1 : Nat) : Int)], u') →
          ∃ v' s' k', f35_l1 (R (d + 4)) 8192 [Z a, Z (.ptr rp 0), Z out, Z ev, Z (.ptr pp 0), I .i64 qs.v, I .i64 qs.w, I .i64 ((k : Nat) : Int)] u = some (.normal v', s') ∧ q = k' + 1 ∧
            ∃ (k : Nat) (qs : FoS) (out ev : S), k' + k = es.length ∧ v' = [Z a, Z (.ptr rp 0), Z out, Z ev, Z (.ptr pp 0), I .i64 qs.v, I .i64 qs.w, I .i64 ((k : Nat) : Int)] ∧ RH sb s' rp pp qs out ev ∧ FOk qs ∧ qs.ever.length ≤ k ∧ foldGo qs (es.drop k) = foldGo fs0 es := fun out' ev' u' hC hH hrun => by
        rw [hC, if_pos rfl] at hgo'
        exact ⟨_, u', q - 1, hrun, by omega, k + 1, nextP qs e, out', ev', by omega, rfl, hH, next_ok hok hC, by have := next_ever (q := qs) (e := e); omega, hgo'⟩
      clear hgo hdr he
      by_cases hm : mayE e = true
      · rw [hm] at em
        obtain ⟨v0, v1, k0, k1, q1, q2, q3, q4⟩ := mayE_range hm
        by_cases hv : e.v < qs.w
        · -- an old view
          by_cases h7 : e.k = 1 ∧ e.i ∈ qs.ever
          · right
            refine fail 7 (by unfold asksP; rw [if_pos hm, if_pos h7]) (by decide) ?_
            rw [decide_eq_true h7.2] at eh
            have hk1 := h7.1
            clear fail okk hgo'
            unfold f35_l1
            generalize R (d + 4) = r at *
            generalize ((k + 1 : Nat) : Int) = K1 at *
            generalize ((k : Nat) : Int) = K at *
            generalize ((es.length : Nat) : Int) = LL at *
            generalize (if thereP qs.l e.i = true then ((kOf qs.l e.i : Nat) : Int) else -1) = AT at *
            simp [llu, c0, ix, ld, nwe, ste, gtt, f2i, ef, l2, em, k3, hk1, i3, eh, agg6, sr, lr, rC, rT, retT, allV]
          · by_cases h9 : e.k = 2 ∧ thereP qs.l e.i = false
            · right
              refine fail 9 (by unfold asksP; rw [if_pos hm, if_neg h7, if_pos h9]) (by decide) ?_
              have hk1 := h9.1
              rw [h9.2, if_neg (by decide)] at ef
              clear fail okk hgo'
              unfold f35_l1
              generalize R (d + 4) = r at *
              generalize ((k + 1 : Nat) : Int) = K1 at *
              generalize ((k : Nat) : Int) = K at *
              generalize ((es.length : Nat) : Int) = LL at *
              simp [llu, c0, ix, ld, nwe, ste, gtt, f2i, ef, l2, em, k3, hk1, i3, eh, agg6, sr, lr, rC, rT, retT, allV]
            · right
              refine fail 12 (by unfold asksP; rw [if_pos hm, if_neg h7, if_neg h9, if_pos hv]) (by decide) ?_
              clear fail okk hgo'
              unfold f35_l1
              rcases (by omega : e.k = 1 ∨ e.k = 2 ∨ e.k = 3 ∨ e.k = 4) with hk1 | hk1 | hk1 | hk1
              · have hni : e.i ∉ qs.ever := fun h => h7 ⟨hk1, h⟩
                rw [decide_eq_false hni] at eh
                generalize R (d + 4) = r at *
                generalize ((k + 1 : Nat) : Int) = K1 at *
                generalize ((k : Nat) : Int) = K at *
                generalize ((es.length : Nat) : Int) = LL at *
                generalize (if thereP qs.l e.i = true then ((kOf qs.l e.i : Nat) : Int) else -1) = AT at *
                simp [llu, c0, ix, ld, nwe, ste, gtt, f2i, ef, l2, em, k3, hk1, i3, eh, v3, hv, agg6, sr, lr, rC, rT, retT, allV]
              · have hth : thereP qs.l e.i = true := by
                  cases ht : thereP qs.l e.i with
                  | true => rfl
                  | false => exact (h9 ⟨hk1, ht⟩).elim
                rw [hth, if_pos rfl] at ef
                have hat : ¬ ((kOf qs.l e.i : Nat) : Int) < 0 := by omega
                generalize R (d + 4) = r at *
                generalize ((k + 1 : Nat) : Int) = K1 at *
                generalize ((k : Nat) : Int) = K at *
                generalize ((es.length : Nat) : Int) = LL at *
                generalize ((kOf qs.l e.i : Nat) : Int) = AT at *
                simp [llu, c0, ix, ld, nwe, ste, gtt, f2i, ef, l2, em, k3, hk1, i3, eh, hat, v3, hv, agg6, sr, lr, rC, rT, retT, allV]
              · generalize R (d + 4) = r at *
                generalize ((k + 1 : Nat) : Int) = K1 at *
                generalize ((k : Nat) : Int) = K at *
                generalize ((es.length : Nat) : Int) = LL at *
                generalize (if thereP qs.l e.i = true then ((kOf qs.l e.i : Nat) : Int) else -1) = AT at *
                simp [llu, c0, ix, ld, nwe, ste, gtt, f2i, ef, l2, em, k3, hk1, i3, eh, v3, hv, agg6, sr, lr, rC, rT, retT, allV]
              · generalize R (d + 4) = r at *
                generalize ((k + 1 : Nat) : Int) = K1 at *
                generalize ((k : Nat) : Int) = K at *
                generalize ((es.length : Nat) : Int) = LL at *
                generalize (if thereP qs.l e.i = true then ((kOf qs.l e.i : Nat) : Int) else -1) = AT at *
                simp [llu, c0, ix, ld, nwe, ste, gtt, f2i, ef, l2, em, k3, hk1, i3, eh, v3, hv, agg6, sr, lr, rC, rT, retT, allV]
        · rcases (by omega : e.k = 1 ∨ e.k = 2 ∨ e.k = 3 ∨ e.k = 4) with hk1 | hk1 | hk1 | hk1
          · by_cases hi : e.i ∈ qs.ever
            · right
              refine fail 7 (by unfold asksP; rw [if_pos hm, if_pos ⟨hk1, hi⟩]) (by decide) ?_
              rw [decide_eq_true hi] at eh
              clear fail okk hgo'
              unfold f35_l1
              generalize R (d + 4) = r at *
              generalize ((k + 1 : Nat) : Int) = K1 at *
              generalize ((k : Nat) : Int) = K at *
              generalize ((es.length : Nat) : Int) = LL at *
              generalize (if thereP qs.l e.i = true then ((kOf qs.l e.i : Nat) : Int) else -1) = AT at *
              simp [llu, c0, ix, ld, nwe, ste, gtt, f2i, ef, l2, em, k3, hk1, i3, eh, agg6, sr, lr, rC, rT, retT, allV]
            · -- a segment comes
              left
              have h0 : asksP qs e = 0 := asks_zero hm (fun h => hi h.2) (fun h => by omega) hv
              have hnx : nextP qs e = ⟨insL qs.l (infE e), qs.ever ++ [e.i], qs.rule, qs.v, e.v⟩ := by unfold nextP; rw [if_pos hk1]
              rw [decide_eq_false hi] at eh
              have L := Fr.lit 1 H3.wf (n := 1) (vs := [S.int .i64 e.i]) rfl
              obtain ⟨u5, hu5⟩ : ∃ u5, u5 = u3.push (.cells true [S.int .i64 e.i]) := ⟨_, rfl⟩
              rw [← hu5] at L
              have n5 : aNew u3 (nSlice 1 (aFill [.int .i64 0] [(0, 1, I .i64 e.i)])) = some (Z (.sl u3.size 0 1 (.known 1)), u5) := by rw [hu5]; rfl
              have H5 := H3.gr ppb L.gr
              obtain ⟨ev', u6, a6, wf6, z6, ow6, old6, new6⟩ := H5.evs.append (by_ := 8) L.gr.wf (by omega) L.rd.src (by simp) (by omega)
              have z35 := L.gr.2.1
              have evlt : ∀ c, own ev = some c → c < u3.size := fun c hc => (H3.eown c hc).2
              have enb : ∀ c, c < u3.size → own ev ≠ some c → u6.get c = u3.get c := fun c hc hne => by rw [old6 c (by omega) hne]; exact L.gr.2.2 c hc
              have evn : own ev ≠ some n := fun hc => by have := (H.eown n hc).2; omega
              have evp : own ev ≠ some pp := fun hc => by have := (H.eown pp hc).1; omega
              have b6 : u6.get n = some (.cells true (cE e)) := by rw [enb n n3 evn]; exact b3
              have lst6 : RI u6 out qs.l := Rd.keep H3.lst fun c hc => enb c (H3.lown c hc).2 (fun h => H.dis c h hc)
              have lo6 : ∀ c, own out = some c → c < u6.size := fun c hc => by have := (H3.lown c hc).2; omega
              obtain ⟨out', u7, e7, f7⟩ := rinsert_run (d + 3) wf6 lst6 lo6 hll (infE e)
              simp only [Nat.add_assoc, Nat.reduceAdd] at e7
              have f2 : aLoad1 (Z (.ptr n 2)) u6.get = some (I .i64 e.i) := aLoad1_of b6 rfl
              have f3 : aLoad1 (Z (.ptr n 3)) u6.get = some (I .i64 e.t) := aLoad1_of b6 rfl
              have f4 : aLoad1 (Z (.ptr n 4)) u6.get = some (I .i64 e.f) := aLoad1_of b6 rfl
              have f5 : aLoad1 (Z (.ptr n 5)) u6.get = some (I .i64 e.o) := aLoad1_of b6 rfl
              have f6 : aLoad1 (Z (.ptr n 6)) u6.get = some (I .u32 e.u) := aLoad1_of b6 rfl
              have ag : asAggT (aFill [.int .i64 0, .int .i64 0, .int .i64 0, .int .i64 0, .int .u32 0] [(0, 1, I .i64 e.i), (1, 1, I .i64 e.t), (2, 1, I .i64 e.f), (3, 1, I .i64 e.o), (4, 1, I .u32 e.u)]) = some (AI (infE e)) := rfl
              have hle3 := H3.le
              have evo : ∀ c, own ev' = some c → sb.size ≤ c ∧ c < u6.size := fun c hc => by
                have hlt := ow6.lt wf6 hc
                rcases new6 with h | h | ⟨c', h, hc'⟩
                · rw [h] at hc; cases hc
                · rw [h] at hc; exact ⟨(H3.eown c hc).1, hlt⟩
                · rw [h] at hc; cases hc; exact ⟨by omega, hlt⟩
              refine okk out' ev' u7 h0 ?_ ?_
              · rw [hnx]
                refine ⟨f7.gr.wf, by have := f7.gr.2.1; omega, fun c hc hne => ?_, ?_, f7.rd, fun c hc => ⟨by have := (f7.new c hc).1; omega, (f7.new c hc).2⟩, ?_, fun c hc => ⟨(evo c hc).1, Nat.lt_of_lt_of_le (evo c hc).2 f7.gr.2.1⟩, fun c hc hco => ?_⟩
                · rw [f7.gr.2.2 c (by omega), enb c (by omega) (fun h => by have := (H3.eown c h).1; omega)]
                  exact H3.old c hc hne
                · rw [f7.gr.2.2 pp (by omega), enb pp (by omega) evp]; exact H3.rule
                · have h1 : (I64I (qs.ever ++ [e.i])) = I64I qs.ever ++ [S.int .i64 e.i] := by simp [I64I]
                  show Ow 1 u7 ev' (qs.ever ++ [e.i]).length (I64I (qs.ever ++ [e.i]))
                  rw [h1, List.length_append]
                  exact ow6.gr wf6 f7.gr
                · have := (evo c hc).2
                  have := (f7.new c hco).1
                  omega
              · rw [hnx]
                clear fail okk hgo' hnx h0
                unfold f35_l1
                generalize R (d + 4) = r at *
                generalize ((k + 1 : Nat) : Int) = K1 at *
                generalize ((k : Nat) : Int) = K at *
                generalize ((es.length : Nat) : Int) = LL at *
                generalize u3.size = z3 at *
                generalize (if thereP qs.l e.i = true then ((kOf qs.l e.i : Nat) : Int) else -1) = AT at *
                simp [llu, c0, ix, ld, nwe, ste, gtt, f2i, ef, l2, em, k3, hk1, i3, eh, v3, hv, n5, a6, f2, f3, f4, f5, f6, ag, e7, w1]
          · by_cases h9 : thereP qs.l e.i = false
            · right
              refine fail 9 (by unfold asksP; rw [if_pos hm, if_neg (fun h => by omega), if_pos ⟨hk1, h9⟩]) (by decide) ?_
              rw [h9, if_neg (by decide)] at ef
              clear fail okk hgo'
              unfold f35_l1
              generalize R (d + 4) = r at *
              generalize ((k + 1 : Nat) : Int) = K1 at *
              generalize ((k : Nat) : Int) = K at *
              generalize ((es.length : Nat) : Int) = LL at *
              simp [llu, c0, ix, ld, nwe, ste, gtt, f2i, ef, l2, em, k3, hk1, i3, eh, agg6, sr, lr, rC, rT, retT, allV]
            · -- a segment goes
              left
              have hth : thereP qs.l e.i = true := by
                cases ht : thereP qs.l e.i with
                | true => rfl
                | false => exact (h9 ht).elim
              have h0 : asksP qs e = 0 := asks_zero hm (fun h => by omega) (fun h => by rw [hth] at h; exact absurd h.2 (by decide)) hv
              have hnx : nextP qs e = ⟨delL qs.l e.i, qs.ever, qs.rule, qs.v, e.v⟩ := by unfold nextP; rw [if_neg (by omega), if_pos hk1]
              rw [hth, if_pos rfl] at ef
              have hat : ¬ ((kOf qs.l e.i : Nat) : Int) < 0 := by omega
              have klt := kOf_lt hok.up hth
              have w2 : IntKind.i64.wrap (((kOf qs.l e.i : Nat) : Int) + 1) = ((kOf qs.l e.i + 1 : Nat) : Int) := by rw [wrap_in _ (by omega) (by omega)]; omega
              obtain ⟨u5, y1, y, u6, n5, pc1, a6, f6, y2, pc2, ow2, rd2⟩ := split3 H3.wf H3.lst (fun c hc => (H3.lown c hc).2) hll kol (show kOf qs.l e.i + 1 ≤ qs.l.length by omega)
              have o2 : ∀ c, own y2 = some c → c < u3.size := fun c hc => by
                rcases ow2 with h | h
                · rw [h] at hc; cases hc
                · rw [h] at hc; exact (H3.lown c hc).2
              have hdl : (qs.l.drop (kOf qs.l e.i + 1)).length = qs.l.length - (kOf qs.l e.i + 1) := by simp
              have htl : (qs.l.take (kOf qs.l e.i)).length = kOf qs.l e.i := by rw [List.length_take]; omega
              obtain ⟨out', u7, a7, f7, _⟩ := f6.append (by_ := 40) (by omega) (Rd.gr rd2 o2 f6.gr).src (cells_len (e := 5) cI_len _) (by omega)
              have f7' : FI u3 u7 out' (delL qs.l e.i) := by
                have h1 : cells cI (delL qs.l e.i) = cells cI (qs.l.take (kOf qs.l e.i)) ++ cells cI (qs.l.drop (kOf qs.l e.i + 1)) := by simp [delL, cells]
                have h2 : (delL qs.l e.i).length = (qs.l.take (kOf qs.l e.i)).length + (qs.l.drop (kOf qs.l e.i + 1)).length := by simp [delL]
                unfold FI
                rw [h1, h2]
                exact f7
              have H7 := H3.gr ppb f7'.gr
              have hle3 := H3.le
              refine okk out' ev u7 h0 ?_ ?_
              · rw [hnx]
                refine ⟨H7.wf, H7.le, H7.old, H7.rule, f7'.rd, fun c hc => ⟨by have := (f7'.new c hc).1; omega, (f7'.new c hc).2⟩, H7.evs, H7.eown, fun c hc hco => ?_⟩
                have := (H3.eown c hc).2
                have := (f7'.new c hco).1
                omega
              · rw [hnx]
                clear fail okk hgo' hnx h0
                unfold f35_l1
                generalize R (d + 4) = r at *
                generalize ((k + 1 : Nat) : Int) = K1 at *
                generalize ((k : Nat) : Int) = K at *
                generalize ((es.length : Nat) : Int) = LL at *
                generalize ((kOf qs.l e.i + 1 : Nat) : Int) = AT1 at *
                generalize ((kOf qs.l e.i : Nat) : Int) = AT at *
                generalize u3.size = z3 at *
                simp [llu, c0, ix, ld, nwe, ste, gtt, f2i, ef, l2, em, k3, hk1, i3, eh, hat, v3, hv, n5, pc1, a6, w2, pc2, a7, w1]
          · -- a view
            left
            have h0 : asksP qs e = 0 := asks_zero hm (fun h => by omega) (fun h => by omega) hv
            have hnx : nextP qs e = ⟨qs.l, qs.ever, qs.rule, e.v, e.v⟩ := by unfold nextP; rw [if_neg (by omega), if_neg (by omega), if_pos hk1]
            refine okk out ev u3 h0 ?_ ?_
            · rw [hnx]
              exact ⟨H3.wf, H3.le, H3.old, H3.rule, H3.lst, H3.lown, H3.evs, H3.eown, H3.dis⟩
            · rw [hnx]
              clear fail okk hgo' hnx h0
              unfold f35_l1
              generalize R (d + 4) = r at *
              generalize ((k + 1 : Nat) : Int) = K1 at *
              generalize ((k : Nat) : Int) = K at *
              generalize ((es.length : Nat) : Int) = LL at *
              generalize (if thereP qs.l e.i = true then ((kOf qs.l e.i : Nat) : Int) else -1) = AT at *
              simp [llu, c0, ix, ld, nwe, ste, gtt, f2i, ef, l2, em, k3, hk1, i3, eh, v3, hv, w1]
          · -- a rule
            left
            have h0 : asksP qs e = 0 := asks_zero hm (fun h => by omega) (fun h => by omega) hv
            have hnx : nextP qs e = ⟨qs.l, qs.ever, (parseP e.x).1, qs.v, e.v⟩ := by unfold nextP; rw [if_neg (by omega), if_neg (by omega), if_neg (by omega)]
            obtain ⟨u5, e5, g5⟩ := rparse_run (d + 1) H3.wf (l := e.x) (by omega)
            rw [rparseP_eq] at e5
            have H5 := H3.gr ppb g5
            obtain ⟨pr, hpr⟩ : ∃ pr, pr = (parseP e.x).1 := ⟨_, rfl⟩
            simp only [Nat.add_assoc, Nat.reduceAdd, resP] at e5
            rw [← hpr] at e5 hnx
            have sp : aStore 6 (Z (.ptr pp 0)) (AP pr) u5 = some (tt, u5.set pp (.cells true (cP pr))) := store6 H5.rule rfl
            obtain ⟨u6, hu6⟩ : ∃ u6, u6 = u5.set pp (.cells true (cP pr)) := ⟨_, rfl⟩
            rw [← hu6] at sp
            have hp5 := H5.wf.lt H5.rule
            refine okk out ev u6 h0 ?_ ?_
            · rw [hnx]
              refine ⟨by rw [hu6]; exact St.wf_set H5.wf hp5 _, by rw [hu6]; simpa using H5.le, fun c hc hne => by rw [hu6, St.get_set_ne _ _ hne]; exact H5.old c hc hne, by rw [hu6]; exact St.get_set_same _ _ _,
                Rd.keep H5.lst fun c hc => by rw [hu6]; exact St.get_set_ne _ _ (by have := (H5.lown c hc).1; omega), fun c hc => by rw [hu6]; exact H5.lown c hc, H5.evs.keep fun c hc => by rw [hu6]; exact St.get_set_ne _ _ (by have := (H5.eown c hc).1; omega), fun c hc => by rw [hu6]; exact H5.eown c hc, H5.dis⟩
            · rw [hnx]
              clear fail okk hgo' hnx h0
              unfold f35_l1
              generalize R (d + 4) = r at *
              generalize ((k + 1 : Nat) : Int) = K1 at *
              generalize ((k : Nat) : Int) = K at *
              generalize ((es.length : Nat) : Int) = LL at *
              generalize (if thereP qs.l e.i = true then ((kOf qs.l e.i : Nat) : Int) else -1) = AT at *
              simp [llu, c0, ix, ld, nwe, ste, gtt, f2i, ef, l2, em, k3, hk1, i3, eh, v3, hv, x3, e5, aExtract, sp, w1]
      · right
        have hmf : mayE e = false := by cases h : mayE e with
          | true => exact (hm h).elim
          | false => rfl
        rw [hmf] at em
        refine fail 1 (by unfold asksP; rw [if_neg hm]) (by decide) ?_
        clear fail okk hgo'
        unfold f35_l1
        generalize R (d + 4) = r at *
        generalize ((k + 1 : Nat) : Int) = K1 at *
        generalize ((k : Nat) : Int) = K at *
        generalize ((es.length : Nat) : Int) = LL at *
        generalize (if thereP qs.l e.i = true then ((kOf qs.l e.i : Nat) : Int) else -1) = AT at *
        simp [llu, c0, ix, ld, nwe, ste, gtt, f2i, ef, l2, em, agg6, sr, lr, rC, rT, retT, allV]
    · right
      have hau : RE u a es := ha.keep fun c hc => by
        have h1 := hoa c hc
        rw [H.old c (by have := gb.2.1; omega) (by omega)]
        exact gb.2.2 c h1
      have llu := hau.lens
      have hke : k = es.length := by omega
      have c0 : ¬ ((k : Nat) : Int) < ((es.length : Nat) : Int) := by omega
      rw [List.drop_eq_nil_of_le (by omega)] at hgo
      refine ⟨.exit 0 [Z (.ptr rp 0), Z out, Z (.ptr pp 0), I .i64 qs.v], u, ?_, (fun v hv => by cases hv), .inl ⟨qs, out, ev, rfl, H, hgo.symm⟩⟩
      unfold f35_l1
      simp [llu, c0]) 8192 es.length [Z a, Z (.ptr rp 0), Z .nils, Z .nils, Z (.ptr pp 0), I .i64 0, I .i64 0, I .i64 0] sb
    ⟨0, fs0, .nils, .nils, by omega, rfl, ⟨wfb, Nat.le_refl _, fun _ _ _ => rfl, pb, Rd.nil 5 sb, (fun c hc => by cases hc), Ow.nil 1 sb, (fun c hc => by cases hc), fun c hc => by cases hc⟩, fs0_ok, Nat.le_refl _, by rw [List.drop_zero]⟩ (by omega)
  simp only [Nat.add_assoc, Nat.reduceAdd] at e2
  rcases hj with ⟨qs, out, ev, rfl, H, hgo⟩ | ⟨rfl, hne, g⟩
  · have lp6 : aLoadN 6 (Z (.ptr pp 0)) τ.get = some (AP qs.rule) := load6 H.rule
    have rτ : τ.get rp = some (.cells true (cP pol0)) := by rw [H.old rp rpb rpp]; exact rb
    have sr : aStore 6 (Z (.ptr rp 0)) (AP qs.rule) τ = some (tt, τ.set rp (.cells true (cP qs.rule))) := store6 rτ rfl
    obtain ⟨u4, hu4⟩ : ∃ u4, u4 = τ.set rp (.cells true (cP qs.rule)) := ⟨_, rfl⟩
    rw [← hu4] at sr
    have lr : aLoadN 6 (Z (.ptr rp 0)) u4.get = some (AP qs.rule) := load6 (by rw [hu4]; exact St.get_set_same _ _ _)
    have hτ := H.wf.lt rτ
    have hle := H.le
    have hbl := gb.2.1
    refine ⟨out, u4, ?_, ?_, fun _ => ?_⟩
    · rw [hgo]
      have hres : resFo ((0 : Int), qs) out = .tup [.s out, .agg (cP qs.rule), .s (.int .i64 qs.v), .s (.int .i64 0)] := rfl
      rw [hres]
      clear hgo hres
      generalize R (d + 4) = r at *
      simp [nw1, e2, nw3, st4, gtt, lp, lp6, sr, lr, rC, rT, retT, allV]
    · rw [hu4]
      exact ⟨St.wf_set H.wf hτ _, by simp only [St.size_set]; omega, fun c hc => by rw [St.get_set_ne _ _ (by omega), H.old c (by omega) (by omega)]; exact gb.2.2 c hc⟩
    · rw [hgo]
      refine ⟨Rd.keep H.lst fun c hc => by rw [hu4]; exact St.get_set_ne _ _ (by have := (H.lown c hc).1; omega), fun c hc => by rw [hu4]; exact (H.lown c hc).2⟩
  · refine ⟨.nils, τ, ?_, g, fun h => (hne h).elim⟩
    generalize resFo (foldGo fs0 es) .nils = RF at *
    generalize R (d + 4) = r at *
    simp [nw1, e2, nw3, st4, gtt, lp]
end
end Go.Proofs.YtlhbidbdmdcdeaaGreatDoor

/-
  What both Folds tell, side by side. No conditions but those named in each line.
-/
namespace Go.Proofs.YtlhbidbdmdcdeaaGreatDoor
open Go Go.Abs Go.Abs.F
set_option linter.unusedVariables false
section
variable {s t : St} {x y a : S}

def resL (r : Int × FoS) : List Inf := if r.1 = 0 then r.2.l else []
def resQ (r : Int × FoS) : Pol := if r.1 = 0 then r.2.rule else pol0
def resV (r : Int × FoS) : Int := if r.1 = 0 then r.2.v else 0
abbrev resU (r : Int × FoS) (y : S) : T := .tup [.s y, .agg (cP (resQ r)), .s (.int .i64 (resV r)), .s (.int .i64 r.1)]

theorem resU_of {r : Int × FoS} {y : S} {t : St} (h : r.1 = 0 → RI t y r.2.l ∧ ∀ c, own y = some c → c < t.size) : ∃ y', resFo r y = resU r y' ∧ RI t y' (resL r) ∧ ∀ c, own y' = some c → c < t.size := by
  unfold resFo resU resL resQ resV
  by_cases h0 : r.1 = 0
  · refine ⟨y, ?_, ?_⟩
    · rw [if_pos h0, if_pos h0, if_pos h0, h0]
    · rw [if_pos h0]
      exact h h0
  · refine ⟨.nils, ?_, ?_, fun c hc => by cases hc⟩
    · rw [if_neg h0, if_neg h0, if_neg h0]
    · rw [if_neg h0]
      exact Rd.nil 5 t

theorem foldU_run (d : Nat) (wf : s.wf) {es : List Ent} (ha : RE s a es) (hoa : ∀ c, own a = some c → c < s.size) (hl : es.length ≤ 8000) : ∃ y t, R (d + 11) 28 [Z a] s = some (resU (foldGo fs0 es) y, t) ∧ Gr s t ∧
    RI t y (resL (foldGo fs0 es)) ∧ ∀ c, own y = some c → c < t.size := by
  obtain ⟨y, t, e, g, f⟩ := fold_run d wf ha hoa hl
  obtain ⟨y', h1, h2, h3⟩ := resU_of (y := y) (t := t) fun h0 => ⟨(f h0).rd, fun c hc => ((f h0).new c hc).2⟩
  rw [h1] at e
  exact ⟨y', t, e, g, h2, h3⟩

theorem rfoldU_run (d : Nat) (wf : s.wf) {es : List Ent} (ha : RE s a es) (hoa : ∀ c, own a = some c → c < s.size) (hl : es.length ≤ 8000) (hx : ∀ e ∈ es, e.x.length ≤ 8000) : ∃ y t, R (d + 5) 35 [Z a] s = some (resU (foldGo fs0 es) y, t) ∧ Gr s t ∧
    RI t y (resL (foldGo fs0 es)) ∧ ∀ c, own y = some c → c < t.size := by
  obtain ⟨y, t, e, g, f⟩ := rfold_run d wf ha hoa hl hx
  obtain ⟨y', h1, h2, h3⟩ := resU_of (y := y) (t := t) f
  rw [h1] at e
  exact ⟨y', t, e, g, h2, h3⟩

theorem aEqP (a b : Pol) : aEq (.a 6 [(0, .i), (1, .i), (2, .i), (3, .i), (4, .i), (5, .i)]) (AP a) (AP b) = some (decide (a = b)) := by
  obtain ⟨a1, a2, a3, a4, a5, a6⟩ := a
  obtain ⟨b1, b2, b3, b4, b5, b6⟩ := b
  show some (decide (a1 = b1) && (decide (a2 = b2) && (decide (a3 = b3) && (decide (a4 = b4) && (decide (a5 = b5) && (decide (a6 = b6) && true)))))) = some (decide (Pol.mk a1 a2 a3 a4 a5 a6 = Pol.mk b1 b2 b3 b4 b5 b6))
  simp only [Pol.mk.injEq, Bool.and_true, Bool.decide_and]
theorem neBP (a b : Pol) : neB (.a 6 [(0, .i), (1, .i), (2, .i), (3, .i), (4, .i), (5, .i)]) (AP a) (AP b) = some (B (!decide (a = b))) := by simp only [neB, aEqP]
theorem eqBP (a b : Pol) : eqB (.a 6 [(0, .i), (1, .i), (2, .i), (3, .i), (4, .i), (5, .i)]) (AP a) (AP b) = some (B (decide (a = b))) := by simp only [eqB, aEqP]
end
end Go.Proofs.YtlhbidbdmdcdeaaGreatDoor

/-
  LogTorn: what stands whole in a torn row is read. No conditions but those named in each line.
-/
namespace Go.Proofs.YtlhbidbdmdcdeaaGreatDoor
open Go Go.Abs Go.Abs.F
set_option linter.unusedVariables false

theorem torn_cut : ∀ (l : List Ent) (k : Nat), k ≤ (framesB l).length → ∃ j post, (framesB l).take k = framesB (l.take j) ++ post ∧ ((∃ hj : j < l.length, ∃ more, more ≠ [] ∧ post ++ more = wrapB (putB l[j])) ∨ (j = l.length ∧ post = []))
  | [], k, h => ⟨0, [], by simp [framesB], .inr ⟨rfl, rfl⟩⟩
  | e :: r, k, h => by
    by_cases hk : (wrapB (putB e)).length ≤ k
    · obtain ⟨j, post, h1, h2⟩ := torn_cut r (k - (wrapB (putB e)).length) (by simp [framesB] at h; omega)
      refine ⟨j + 1, post, ?_, ?_⟩
      · simp only [framesB, List.take_succ_cons]
        rw [List.take_append, List.take_of_length_le hk, h1, List.append_assoc]
      · rcases h2 with ⟨hj, m, h3, h4⟩ | ⟨h3, h4⟩
        · exact .inl ⟨by simpa using hj, m, h3, by simpa using h4⟩
        · exact .inr ⟨by simp [h3], h4⟩
    · refine ⟨0, (wrapB (putB e)).take k, ?_, .inl ⟨by simp, (wrapB (putB e)).drop k, fun h0 => ?_, by simp [List.take_append_drop]⟩⟩
      · simp only [framesB, List.take_zero, List.nil_append]
        rw [List.take_append_of_le_length (by omega)]
      · have := congrArg List.length h0
        rw [List.length_drop] at this
        simp at this
        omega

theorem wrapB_le (p : Bs) : p.length ≤ (wrapB p).length := by simp [wrapB]; omega

theorem torn_law {l : List Ent} (hm : l.all mayE = true) (hw : ∀ e ∈ l, EWf e) (hl : l.length ≤ 2000) {k : Nat} (hk : k ≤ (framesB l).length) :
    ∃ j, j ≤ l.length ∧ readP ((framesB l).take k) = (l.take j, (framesB (l.take j)).length) ∧ (framesB (l.take j)).length ≤ k ∧ (∀ hj : j < l.length, k < (framesB (l.take j)).length + (wrapB (putB l[j])).length) ∧ (j = l.length → k = (framesB l).length) := by
  obtain ⟨j, post, h1, h2⟩ := torn_cut l k hk
  have hlen : k = (framesB (l.take j)).length + post.length := by
    have := congrArg List.length h1
    rw [List.length_take, List.length_append] at this
    omega
  have hjl : j ≤ l.length := by rcases h2 with ⟨hj, _⟩ | ⟨hj, _⟩ <;> omega
  have hr := readP_frames (bs := (framesB l).take k) (l := l.take j) (post := post) (by rw [List.length_take]; omega) (all_take j hm) (fun e he => hw e (List.mem_of_mem_take he)) h1
  have hno : openB ((framesB l).take k) (framesB (l.take j)).length = none := by
    cases ho : openB ((framesB l).take k) (framesB (l.take j)).length with
    | none => rfl
    | some pe =>
      obtain ⟨p, e⟩ := pe
      exfalso
      obtain ⟨he1, he2, post', hp⟩ := openB_back ho
      rw [h1, List.drop_left] at hp
      rcases h2 with ⟨hj, more, hne, hq⟩ | ⟨_, rfl⟩
      · rw [hp] at hq
        have hme : mayE l[j] = true := by
          rw [List.all_eq_true] at hm
          exact hm _ (List.getElem_mem hj)
        have hql := mayE_len hme
        have hwl := wrapB_len (putB l[j])
        have h3 := congrArg List.length hq
        rw [List.length_append, List.length_append] at h3
        have := wrapB_le p
        have hf := wrapB_free (p := p) (q := putB l[j]) (r := post' ++ more) (r' := []) (by rw [List.append_nil, ← hq, List.append_assoc]) (by omega) (by omega)
        exact hne (List.append_eq_nil_iff.1 hf.2).2
      · have := congrArg List.length hp
        rw [List.length_append] at this
        have h4 : (wrapB p).length = 0 := by simp at this; omega
        simp [wrapB, four] at h4
  rw [readL_none hno] at hr
  refine ⟨j, hjl, hr, by omega, fun hj => ?_, fun hj => ?_⟩
  · rcases h2 with ⟨_, more, hne, hq⟩ | ⟨h, _⟩
    · rw [← hq, List.length_append]
      have : 0 < more.length := List.length_pos_iff.2 hne
      omega
    · omega
  · rcases h2 with ⟨h, _⟩ | ⟨_, hp⟩
    · omega
    · rw [hp] at hlen
      rw [hj, List.take_length] at hlen
      simpa using hlen

section
variable {s t : St} {x y : S} {bs cs : Bs} {i : Nat} {l m : List Ent}

theorem meetP_take (l : List Ent) (k : Nat) : meetP (l.take k) l = (l.take k).length := by
  induction l generalizing k with
  | nil => simp [meetP]
  | cons e r ih => cases k with
    | zero => simp [meetP]
    | succ k =>
      rw [List.take_succ_cons]
      show (if e = e then _ else _) = _
      rw [if_pos rfl, ih]
      rfl

theorem allP_may (hm : l.all mayE = true) (hl : l.length ≤ 2000) : allP l = (framesB l, 0) := by unfold allP; rw [if_pos hm, if_pos hl]

theorem RE_upto (h : RE s x l) {k : Nat} (hk : k ≤ l.length) : ∃ y, aPieceSl 8 (Z x) none (some (I .i64 k)) none = some (Z y) ∧ RE s y (l.take k) ∧ (own y = none ∨ own y = own x) := by
  obtain ⟨y, a, b, c⟩ := Rd.upto h hk
  refine ⟨y, a, ?_, c⟩
  rw [cells_take cE_len] at b
  have : (l.take k).length = k := by rw [List.length_take]; omega
  unfold RE
  rw [this]
  exact b

theorem RB_upto (h : RB s x bs) {k : Nat} (hk : k ≤ bs.length) : ∃ y, aPieceSl 1 (Z x) none (some (I .i64 k)) none = some (Z y) ∧ RB s y (bs.take k) ∧ (own y = none ∨ own y = own x) := by
  obtain ⟨y, a, b, c⟩ := Rd.upto h hk
  refine ⟨y, a, ?_, c⟩
  rw [Nat.mul_one, U_take] at b
  have : (bs.take k).length = k := by rw [List.length_take]; omega
  unfold RB
  rw [this]
  exact b

theorem own_lt {x y : S} {n : Nat} (h : own y = none ∨ own y = own x) (hx : ∀ c, own x = some c → c < n) : ∀ c, own y = some c → c < n := fun c hc => by
  rcases h with h | h
  · rw [h] at hc; cases hc
  · rw [h] at hc; exact hx c hc

/-- The remainder of a number, as the laws make it. -/
theorem mod_run (v : Int) {n : Nat} (h0 : 0 < n) (hn : n < 2 ^ 62) : ∃ k : Nat, k < n ∧ k = rowK v % n ∧ aConv .u64 (I .i64 v) = some (I .u64 (rowK v : Nat)) ∧ aConv .u64 (I .i64 (n : Nat)) = some (I .u64 (n : Nat)) ∧ aBin .rem (I .u64 (rowK v : Nat)) (I .u64 (n : Nat)) = some (I .u64 (k : Nat)) ∧ aConv .i64 (I .u64 (k : Nat)) = some (I .i64 (k : Nat)) :=
  ⟨_, Nat.mod_lt _ h0, rfl, by rw [aConv_int, rowK_eq], by rw [aConv_int, wrap64 _ (by omega)], rem_nat .u64 _ _ h0, by
    have := Nat.mod_lt (rowK v) h0
    rw [aConv_int, wrapi _ (by omega)]⟩

theorem torn_run (d : Nat) (wf : s.wf) {is : List Int} {cut : Int} (hx : Rd 1 s x is.length (I64 is)) (hox : ∀ c, own x = some c → c < s.size) : ∃ t, R (d + 12) 5 [Z x, I .i64 cut] s = some (B true, t) := by
  rw [f5_run]
  unfold f5
  obtain ⟨hm, hw, hl⟩ := rowsE_may is
  have hfl := rowsE_len is
  obtain ⟨o, s1, e1, f1⟩ := rows_run (d + 10) wf hx hox
  generalize rowsE is = l at *
  have ho1 : ∀ c, own o = some c → c < s1.size := fun c hc => (f1.new c hc).2
  obtain ⟨z, s2, e2, f2⟩ := all_run d f1.gr.wf f1.rd ho1 hw (by omega)
  rw [allP_may hm (by omega)] at e2 f2
  have hll := RB.lenB (bs := framesB l) f2.rd
  obtain ⟨k, hk, _, c1, c2, r1, c3⟩ := mod_run cut (n := (framesB l).length + 1) (by omega) (by omega)
  have w1 : IntKind.i64.wrap (((framesB l).length : Int) + 1) = (((framesB l).length + 1 : Nat) : Int) := by rw [wrap_in _ (by omega) (by omega)]; omega
  obtain ⟨y, p1, ry, oy⟩ := RB_upto (bs := framesB l) f2.rd (k := k) (by omega)
  have ho2 : ∀ c, own z = some c → c < s2.size := fun c hc => (f2.new c hc).2
  obtain ⟨u, s3, e3, f3⟩ := read_run' d f2.gr.wf ry (own_lt oy ho2) (by rw [List.length_take]; omega)
  obtain ⟨j, hj, hr, hle, hlt, heq⟩ := torn_law hm hw (by omega) (k := k) (by omega)
  rw [hr] at e3 f3
  simp only [resR] at e3
  have hlj : (l.take j).length = j := by rw [List.length_take]; omega
  have ul : aLenSl (Z u) = some (I .i64 ((l.take j).length : Nat)) := f3.rd.lens
  rw [hlj] at ul
  have g13 : Gr s1 s3 := f2.gr.trans f3.gr
  have re3 : RE s3 o l := (f1.rd : RE s1 o l).gr ho1 g13
  have ol := (f1.rd : RE s1 o l).lens
  have ho3 : ∀ c, own o = some c → c < s3.size := fun c hc => Nat.lt_of_lt_of_le (ho1 c hc) g13.2.1
  have hu3 : ∀ c, own u = some c → c < s3.size := fun c hc => (f3.new c hc).2
  obtain ⟨s4, e4, g4⟩ := front_run (d + 8) f3.gr.wf (f3.rd : RE s3 u (l.take j)) hu3 re3 ho3 (by rw [List.length_take]; omega)
  rw [meetP_take, decide_eq_true rfl] at e4
  obtain ⟨v, p2, rv, ov⟩ := RE_upto (re3.gr ho3 g4) (k := j) hj
  have ho4 : ∀ c, own o = some c → c < s4.size := fun c hc => Nat.lt_of_lt_of_le (ho3 c hc) g4.2.1
  obtain ⟨q, s5, e5, f5⟩ := all_run d g4.wf rv (own_lt ov ho4) (fun e he => hw e (List.mem_of_mem_take he)) (by omega)
  rw [allP_may (all_take j hm) (by omega)] at e5 f5
  simp only [resA] at e2 e5
  have ql := RB.lenB (bs := framesB (l.take j)) f5.rd
  have tl5 := fun st => told10_run (d + 10) st
  have n1 : ¬ (k : Int) < ((framesB (l.take j)).length : Nat) := by omega
  have n2 : ¬ ((l.length : Nat) : Int) < ((j : Nat) : Int) := by omega
  simp only [Nat.add_assoc, Nat.reduceAdd] at e1 e2 e3 e4 e5 tl5
  by_cases hjl : j < l.length
  · have hme : mayE l[j] = true := by
      rw [List.all_eq_true] at hm
      exact hm _ (List.getElem_mem hjl)
    obtain ⟨w, ix, ld⟩ := RE.atE (re3.gr ho3 (g4.trans f5.gr)) (n := ((j : Nat) : Int)) rfl (List.getElem?_eq_getElem hjl)
    obtain ⟨r, s6, e6, g6, f6⟩ := frame_run (d + 1) f5.gr.wf l[j] (hw _ (List.getElem_mem hjl))
    have hf : frameE l[j] = some (wrapB (putB l[j])) := by simp [frameE, hme]
    rw [hf] at e6
    simp only [resF] at e6
    have rl := (f6 _ hf).rd.lens
    have c5 : ((j : Nat) : Int) < ((l.length : Nat) : Int) := by omega
    have hlt' := hlt hjl
    have hwl := frameE_len hf
    have w2 : IntKind.i64.wrap (((framesB (l.take j)).length : Int) + ((wrapB (putB l[j])).length : Nat)) = (((framesB (l.take j)).length + (wrapB (putB l[j])).length : Nat) : Int) := by rw [wrap_in _ (by omega) (by omega)]; omega
    have n3 : (k : Int) < (((framesB (l.take j)).length + (wrapB (putB l[j])).length : Nat) : Int) := by omega
    simp only [Nat.add_assoc, Nat.reduceAdd] at e6
    refine ⟨s6, ?_⟩
    generalize (((framesB (l.take j)).length + (wrapB (putB l[j])).length : Nat) : Int) = FW at *
    generalize (((framesB (l.take j)).length : Nat) : Int) = FJ at *
    generalize (((wrapB (putB l[j])).length : Nat) : Int) = WJ at *
    generalize (((framesB l).length + 1 : Nat) : Int) = F1 at *
    generalize (((framesB l).length : Nat) : Int) = F0 at *
    generalize ((l.length : Nat) : Int) = LL at *
    generalize ((j : Nat) : Int) = JJ at *
    generalize ((k : Nat) : Int) = KK at *
    generalize ((rowK cut : Nat) : Int) = RK at *
    generalize R (d + 11) = r at *
    simp [e1, e2, aExtract, c1, hll, w1, c2, r1, c3, p1, e3, n1, ul, ol, n2, e4, p2, e5, ql, c5, ix, ld, e6, tl5, rl, w2, n3]
  · have hje : j = l.length := by omega
    have hke := heq hje
    have c5 : ¬ ((j : Nat) : Int) < ((l.length : Nat) : Int) := by omega
    have hfj : (framesB (l.take j)).length = (framesB l).length := by rw [hje, List.take_length]
    rw [hfj] at e3 ql n1
    refine ⟨s5, ?_⟩
    generalize (((framesB l).length + 1 : Nat) : Int) = F1 at *
    generalize (((framesB l).length : Nat) : Int) = F0 at *
    generalize ((l.length : Nat) : Int) = LL at *
    generalize ((j : Nat) : Int) = JJ at *
    generalize ((k : Nat) : Int) = KK at *
    generalize ((rowK cut : Nat) : Int) = RK at *
    generalize R (d + 11) = r at *
    simp [e1, e2, aExtract, c1, hll, w1, c2, r1, c3, p1, e3, n1, ul, ol, n2, e4, p2, e5, ql, c5, tl5]
end
end Go.Proofs.YtlhbidbdmdcdeaaGreatDoor

/-
  EntryTwice, run. No conditions but those named in each line.
-/
namespace Go.Proofs.YtlhbidbdmdcdeaaGreatDoor
open Go Go.Abs Go.Abs.F
set_option linter.unusedVariables false
section
variable {s t : St} {x y : S} {l : List Ent}

theorem resFo_ex (r : Int × FoS) (y : S) : ∃ y' p v, resFo r y = .tup [.s y', .agg (cP p), .s (.int .i64 v), .s (.int .i64 r.1)] := by
  unfold resFo
  by_cases h : r.1 = 0
  · rw [if_pos h, h]; exact ⟨_, _, _, rfl⟩
  · rw [if_neg h]; exact ⟨_, _, _, rfl⟩

/-- A place for a policy. -/
theorem polBox (wf : s.wf) (p : Pol) : ∃ s1 s2, aNew s (nCells [.int .i64 0, .int .i64 0, .int .i64 0, .int .i64 0, .int .i64 0, .int .i64 0]) = some (Z (.ptr s.size 0), s1) ∧ aStore 6 (Z (.ptr s.size 0)) (AP p) s1 = some (tt, s2) ∧ Gr s s2 ∧
    s2.get s.size = some (.cells true (cP p)) ∧ s.size < s2.size := by
  have b0 : (s.push (.cells true (cP pol0))).get s.size = some (.cells true (cP pol0)) := St.get_push_same _ _
  exact ⟨s.push (.cells true (cP pol0)), _, rfl, store6 b0 rfl, ⟨St.wf_set (St.wf_push wf _) (by simp) _, by simp, fun c hc => by rw [St.get_set_ne _ _ (by omega), St.get_push_ne _ _ (by omega)]⟩, St.get_set_same _ _ _, by simp⟩

/-- Entries copied into a new slice, and one more. -/
theorem copyE_run (wf : s.wf) (h : RE s x l) (hox : ∀ c, own x = some c → c < s.size) (hl : l.length ≤ 100000) (e : Ent) : ∃ y s1 s2 z s3 t, aNew s (nSlice 0 (aFill [] [])) = some (Z (.sl s.size 0 0 (.known 0)), s1) ∧
    aAppend 8 72 (Z (.sl s.size 0 0 (.known 0))) (Z x) s1 = some (Z y, s2) ∧
    aNew s2 (nSlice 1 (aFill [.int .i64 0, .int .i64 0, .int .i64 0, .int .i64 0, .int .i64 0, .int .i64 0, .int .u32 0, .str []] [(0, 8, AE e)])) = some (Z (.sl s2.size 0 1 (.known 1)), s3) ∧
    aAppend 8 72 (Z y) (Z (.sl s2.size 0 1 (.known 1))) s3 = some (Z z, t) ∧ FE s t z (l ++ [e]) := by
  have f0 := Fr.lit 8 wf (n := 0) (vs := []) rfl
  obtain ⟨y, s2, e1, f1, _⟩ := f0.append (by_ := 72) (by omega) (h.gr hox f0.gr).src (cells_len (e := 8) cE_len l) (by omega)
  simp only [Nat.zero_add, List.nil_append] at f1
  obtain ⟨z, t, s3, e2, e3, f3, _⟩ := FE.lit (e := e) f1 (by omega)
  exact ⟨y, _, s2, z, s3, t, rfl, e1, e2, e3, f3⟩

set_option maxHeartbeats 1000000 in
theorem scan_run (r : CallF) (k : Int) (h : RE s x l) (hl : l.length ≤ 8000) : ∃ sc, sc = l.foldl (scStep k) ⟨false, false, 0⟩ ∧
    loops (f13_l1 r 8192) 8192 [Z x, I .i64 k, B false, B false, I .i64 0, I .i64 0] s = some (.exit 0 [Z x, I .i64 k, B sc.ever, B sc.there, I .i64 sc.view], s) := by
  have ll := h.lens
  obtain ⟨j, τ, lp, rfl, rfl⟩ := loops_inv (f := f13_l1 r 8192)
    (fun q v u => ∃ (n : Nat) (sc : Sc), q + n = l.length ∧ v = [Z x, I .i64 k, B sc.ever, B sc.there, I .i64 sc.view, I .i64 ((n : Nat) : Int)] ∧ u = s ∧ (l.drop n).foldl (scStep k) sc = l.foldl (scStep k) ⟨false, false, 0⟩)
    (fun j u => j = .exit 0 [Z x, I .i64 k, B (l.foldl (scStep k) ⟨false, false, 0⟩).ever, B (l.foldl (scStep k) ⟨false, false, 0⟩).there, I .i64 (l.foldl (scStep k) ⟨false, false, 0⟩).view] ∧ u = s) (by
    rintro q v u ⟨n, sc, hn, rfl, rfl, hsc⟩
    by_cases hnl : n < l.length
    · left
      have hg : l[n]? = some l[n] := List.getElem?_eq_getElem hnl
      obtain ⟨e, he⟩ : ∃ e, e = l[n] := ⟨_, rfl⟩
      rw [← he] at hg
      rw [List.drop_eq_getElem_cons hnl, ← he, List.foldl_cons] at hsc
      obtain ⟨c, p, ix, ld, _⟩ := Rd.at h (i := ((n : Nat) : Int)) rfl hnl
      have l0 := ld 0 (.int .i64 e.k) (by omega) (by rw [cells_get cE_len hg (by omega)]; rfl)
      have l1 := ld 1 (.int .i64 e.v) (by omega) (by rw [cells_get cE_len hg (by omega)]; rfl)
      have l2 := ld 2 (.int .i64 e.i) (by omega) (by rw [cells_get cE_len hg (by omega)]; rfl)
      have fa0 : aFieldAddr 0 (Z (.ptr c p)) = some (Z (.ptr c (p + 0))) := rfl
      have fa1 : aFieldAddr 1 (Z (.ptr c p)) = some (Z (.ptr c (p + 1))) := rfl
      have fa2 : aFieldAddr 2 (Z (.ptr c p)) = some (Z (.ptr c (p + 2))) := rfl
      have c0 : ((n : Nat) : Int) < ((l.length : Nat) : Int) := by omega
      have w1 : IntKind.i64.wrap ((n : Int) + 1) = ((n + 1 : Nat) : Int) := by rw [wrap_in _ (by omega) (by omega)]; omega
      refine ⟨[Z x, I .i64 k, B (scStep k sc e).ever, B (scStep k sc e).there, I .i64 (scStep k sc e).view, I .i64 ((n + 1 : Nat) : Int)], u, q - 1, ?_, by omega, n + 1, scStep k sc e, by omega, rfl, rfl, hsc⟩
      unfold f13_l1
      clear hsc he
      generalize ((n + 1 : Nat) : Int) = N1 at *
      generalize ((n : Nat) : Int) = N0 at *
      generalize ((l.length : Nat) : Int) = LL at *
      generalize p + 0 = p0 at *
      by_cases h1 : e.k = 1
      · by_cases hi : e.i = k
        · simp [ll, c0, ix, fa0, fa1, fa2, l0, l1, l2, h1, hi, w1, scStep]
        · simp [ll, c0, ix, fa0, fa1, fa2, l0, l1, l2, h1, hi, w1, scStep]
      · by_cases h2 : e.k = 2
        · by_cases hi : e.i = k
          · simp [ll, c0, ix, fa0, fa1, fa2, l0, l1, l2, h2, hi, w1, scStep]
          · simp [ll, c0, ix, fa0, fa1, fa2, l0, l1, l2, h2, hi, w1, scStep]
        · simp [ll, c0, ix, fa0, fa1, fa2, l0, l1, l2, h1, h2, w1, scStep]
    · right
      have hnn : n = l.length := by omega
      subst hnn
      rw [List.drop_length] at hsc
      have hsc' : sc = l.foldl (scStep k) ⟨false, false, 0⟩ := hsc
      refine ⟨_, u, ?_, (fun v hv => by cases hv), rfl, rfl⟩
      have c0 : ¬ ((l.length : Nat) : Int) < ((l.length : Nat) : Int) := by omega
      unfold f13_l1
      rw [← hsc']
      simp [ll, c0]) 8192 l.length [Z x, I .i64 k, B false, B false, I .i64 0, I .i64 0] s ⟨0, ⟨false, false, 0⟩, by omega, rfl, rfl, by rw [List.drop_zero]⟩ (by omega)
  exact ⟨_, rfl, lp⟩

/-- What a list that is taken says of one entry more. -/
theorem more_code {l : List Ent} {q : FoS} (h : foldGo fs0 l = (0, q)) (e : Ent) : (foldGo fs0 (l ++ [e])).1 = asksP q e := by
  rw [foldGo_append, h, if_pos rfl, foldGo_one]
  split
  · rename_i h; exact h.symm
  · rfl

set_option maxHeartbeats 2000000 in
theorem twice_run (d : Nat) (wf : s.wf) {is : List Int} {id : Int} (hx : Rd 1 s x is.length (I64 is)) (hox : ∀ c, own x = some c → c < s.size) : ∃ t, R (d + 12) 13 [Z x, I .i64 id] s = some (B true, t) := by
  rw [f13_run]
  unfold f13
  obtain ⟨hm, hw, hl⟩ := rowsE_may is
  have htk := rows_taken is
  obtain ⟨o, s1, e1, f1⟩ := rows_run (d + 10) wf hx hox
  generalize rowsE is = l at *
  have ho1 : ∀ c, own o = some c → c < s1.size := fun c hc => (f1.new c hc).2
  obtain ⟨k, hk, _, c1, _, r1, c3⟩ := mod_run id (n := 40) (by decide) (by decide)
  have r1' : aBin .rem (I .u64 (rowK id : Nat)) (I .u64 40) = some (I .u64 ((k : Nat) : Int)) := r1
  have a1 : aBin .add (I .i64 1) (I .i64 ((k : Nat) : Int)) = some (I .i64 ((k + 1 : Nat) : Int)) := by
    rw [add_int, wrap_in _ (by omega) (by omega), show (1 : Int) + ((k : Nat) : Int) = ((k + 1 : Nat) : Int) by omega]
  obtain ⟨sc, hsc, lp⟩ := scan_run (R (d + 11)) (((k + 1 : Nat) : Int)) f1.rd (by omega)
  obtain ⟨q, hq⟩ : ∃ q, foldGo fs0 l = (0, q) := ⟨(foldGo fs0 l).2, by rw [← htk]⟩
  have hq2 : (foldGo fs0 l).2 = q := by rw [hq]
  have hS : ScOk (((k + 1 : Nat) : Int)) sc q := by
    have := scan_ok (k := ((k + 1 : Nat) : Int)) l (s := ⟨false, false, 0⟩) (q := fs0) ⟨rfl, rfl, rfl⟩ fs0_ok htk
    rw [hq2, ← hsc] at this
    exact this
  have hwr := w_range l fs0 (by decide) (by decide) htk
  rw [hq2] at hwr
  obtain ⟨s_ever, s_there, s_view⟩ := hS
  -- a segment more
  obtain ⟨ea, hea⟩ : ∃ ea : Ent, ea = ⟨1, sc.view, ((k + 1 : Nat) : Int), 0, 0, 1, 0, []⟩ := ⟨_, rfl⟩
  have ma : mayE ea = true := by
    rw [hea]
    unfold mayE
    rw [if_neg (by show ¬ (sc.view < 0 ∨ 1073741824 < sc.view); omega), if_pos rfl]
    have h1 : idOk ((k + 1 : Nat) : Int) = true := by
      unfold idOk
      rw [decide_eq_true (by omega), decide_eq_true (by omega)]; rfl
    show (decide (([] : Bs) = []) && idOk ((k + 1 : Nat) : Int) && decide ((0 : Int) ≤ 0) && decide ((0 : Int) < 4) && decide ((0 : Int) ≤ 0) && decide ((0 : Int) < 1) && decide ((1 : Int) ≤ 1099511627776)) = true
    rw [h1]; decide
  have ca : asksP q ea = if sc.ever = true then 7 else 0 := by
    unfold asksP
    rw [if_pos ma, s_ever]
    by_cases hi : ((k + 1 : Nat) : Int) ∈ q.ever
    · rw [if_pos ⟨by rw [hea], by rw [hea]; exact hi⟩, decide_eq_true hi, if_pos rfl]
    · rw [if_neg (fun h => hi (by rw [hea] at h; exact h.2)), if_neg (by rw [hea]; simp), if_neg (by rw [hea]; show ¬ sc.view < q.w; omega), decide_eq_false hi, if_neg (by decide)]
  obtain ⟨y1, u1, u2, z1, u3, u4, n1, p1, n2, p2, F4⟩ := copyE_run f1.gr.wf f1.rd ho1 (by omega) ea
  have ag1 : asAggT (aFill [.int .i64 0, .int .i64 0, .int .i64 0, .int .i64 0, .int .i64 0, .int .i64 0, .int .u32 0, .str []] [(0, 1, (I .i64 1)), (1, 1, I .i64 sc.view), (2, 1, I .i64 ((k + 1 : Nat) : Int)), (5, 1, (I .i64 1))]) = some (AE ea) := by rw [hea]; rfl
  obtain ⟨w1, u5, e5, g5, _⟩ := fold_run d F4.gr.wf F4.rd (fun c hc => (F4.new c hc).2) (by simp; omega)
  obtain ⟨y1', pp1, v1, hr1⟩ := resFo_ex (foldGo fs0 (l ++ [ea])) w1
  rw [more_code hq, ca] at hr1
  rw [hr1] at e5
  obtain ⟨u6, u7, n6, st7, g7, _, _⟩ := polBox g5.wf pp1
  -- one that goes
  obtain ⟨eb, heb⟩ : ∃ eb : Ent, eb = ⟨2, sc.view, ((k + 1 : Nat) : Int), 0, 0, 0, 0, []⟩ := ⟨_, rfl⟩
  have mb : mayE eb = true := by
    rw [heb]
    unfold mayE
    rw [if_neg (by show ¬ (sc.view < 0 ∨ 1073741824 < sc.view); omega), if_neg (show ¬ ((2 : Int) = 1) by decide), if_pos rfl]
    have h1 : idOk ((k + 1 : Nat) : Int) = true := by
      unfold idOk
      rw [decide_eq_true (by omega), decide_eq_true (by omega)]; rfl
    show (idOk ((k + 1 : Nat) : Int) && decide ((⟨2, sc.view, ((k + 1 : Nat) : Int), 0, 0, 0, 0, []⟩ : Ent) = ⟨2, sc.view, ((k + 1 : Nat) : Int), 0, 0, 0, 0, []⟩)) = true
    rw [h1, decide_eq_true rfl]; rfl
  have cb : asksP q eb = if sc.there = true then 0 else 9 := by
    unfold asksP
    rw [if_pos mb, if_neg (by rw [heb]; simp), s_there]
    have hib : eb.i = ((k + 1 : Nat) : Int) := by rw [heb]
    have hkb : eb.k = 2 := by rw [heb]
    have hvb : eb.v = sc.view := by rw [heb]
    rw [hib]
    cases ht : thereP q.l ((k + 1 : Nat) : Int) with
    | true => rw [if_neg (by simp), if_neg (by omega), if_pos rfl]
    | false => rw [if_pos ⟨hkb, rfl⟩, if_neg (by decide)]
  have g17 := F4.gr.trans (g5.trans g7)
  have ho7 : ∀ c, own o = some c → c < u7.size := fun c hc => Nat.lt_of_lt_of_le (ho1 c hc) g17.2.1
  obtain ⟨y2, u8, u9, z2, u10, u11, n8, p8, n9, p9, F11⟩ := copyE_run g7.wf (f1.rd.gr ho1 g17) ho7 (by omega) eb
  have ag2 : asAggT (aFill [.int .i64 0, .int .i64 0, .int .i64 0, .int .i64 0, .int .i64 0, .int .i64 0, .int .u32 0, .str []] [(0, 1, (I .i64 2)), (1, 1, I .i64 sc.view), (2, 1, I .i64 ((k + 1 : Nat) : Int))]) = some (AE eb) := by rw [heb]; rfl
  obtain ⟨w2, u12, e12, g12, _⟩ := fold_run d F11.gr.wf F11.rd (fun c hc => (F11.new c hc).2) (by simp; omega)
  obtain ⟨y2', pp2, v2, hr2⟩ := resFo_ex (foldGo fs0 (l ++ [eb])) w2
  rw [more_code hq, cb] at hr2
  rw [hr2] at e12
  obtain ⟨u13, u14, n13, st14, g14, _, _⟩ := polBox g12.wf pp2
  have tl := told9_run (d + 10) u14
  simp only [Nat.add_assoc, Nat.reduceAdd] at e1 tl
  refine ⟨u14, ?_⟩
  clear hm hw htk hsc hq hq2 hr1 hr2 ca cb ma mb s_ever s_there s_view hwr hea heb
  generalize R (d + 11) = r at *
  generalize ((k + 1 : Nat) : Int) = K1 at *
  generalize ((k : Nat) : Int) = K at *
  generalize s1.size = z1s at *
  generalize u2.size = z2s at *
  generalize u5.size = z5s at *
  generalize u7.size = z7s at *
  generalize u9.size = z9s at *
  generalize u12.size = z12s at *
  obtain ⟨sce, sct, scv⟩ := sc
  cases sce with
  | true =>
    cases sct with
    | true => simp at e5 e12 lp ag1 ag2; simp [e1, c1, r1', c3, a1, lp, n1, p1, ag1, n2, p2, e5, aExtract, n6, st7, n8, p8, ag2, n9, p9, e12, n13, st14, gtt, tl]
    | false => simp at e5 e12 lp ag1 ag2; simp [e1, c1, r1', c3, a1, lp, n1, p1, ag1, n2, p2, e5, aExtract, n6, st7, n8, p8, ag2, n9, p9, e12, n13, st14, gtt, tl]
  | false =>
    cases sct with
    | true => simp at e5 e12 lp ag1 ag2; simp [e1, c1, r1', c3, a1, lp, n1, p1, ag1, n2, p2, e5, aExtract, n6, st7, n8, p8, ag2, n9, p9, e12, n13, st14, gtt, tl]
    | false => simp at e5 e12 lp ag1 ag2; simp [e1, c1, r1', c3, a1, lp, n1, p1, ag1, n2, p2, e5, aExtract, n6, st7, n8, p8, ag2, n9, p9, e12, n13, st14, gtt, tl]
end
end Go.Proofs.YtlhbidbdmdcdeaaGreatDoor

/-
  EntryFolds, run. No conditions but those named in each line.
-/
namespace Go.Proofs.YtlhbidbdmdcdeaaGreatDoor
open Go Go.Abs Go.Abs.F
set_option linter.unusedVariables false
section
variable {s t : St} {x y : S} {l : List Ent}

/-- The numbers rise: the law's own loop. -/
theorem rise_run (r : CallF) {is : List Inf} (h : RI s x is) (hp : is.Pairwise fun a b => a.i < b.i) (hl : is.length ≤ 8000) : loops (f12_l1 r 8192) 8192 [Z x, I .i64 1] s = some (.exit 0 [], s) := by
  have ll := h.lens
  obtain ⟨j, τ, lp, rfl, rfl⟩ := loops_inv (f := f12_l1 r 8192)
    (fun q v u => ∃ n : Nat, is.length ≤ q + n ∧ 1 ≤ n ∧ v = [Z x, I .i64 ((n : Nat) : Int)] ∧ u = s)
    (fun j u => j = .exit 0 [] ∧ u = s) (by
    rintro q v u ⟨n, hn, h1, rfl, rfl⟩
    by_cases hnl : n < is.length
    · left
      have hg : is[n]? = some is[n] := List.getElem?_eq_getElem hnl
      have hg2 : is[n - 1]? = some is[n - 1] := List.getElem?_eq_getElem (by omega)
      have hlt := up_at hp (show n - 1 < n by omega) hg2 hg
      obtain ⟨a, ha⟩ : ∃ a, a = is[n] := ⟨_, rfl⟩
      obtain ⟨b, hb⟩ : ∃ b, b = is[n - 1] := ⟨_, rfl⟩
      rw [← ha] at hg hlt
      rw [← hb] at hg2 hlt
      obtain ⟨c, p, ix, l0, _⟩ := h.atI (n := ((n : Nat) : Int)) rfl hg
      obtain ⟨c', p', ix', l0', _⟩ := h.atI (n := ((n - 1 : Nat) : Int)) rfl hg2
      have fa : aFieldAddr 0 (Z (.ptr c p)) = some (Z (.ptr c (p + 0))) := rfl
      have fa' : aFieldAddr 0 (Z (.ptr c' p')) = some (Z (.ptr c' (p' + 0))) := rfl
      have c0 : ((n : Nat) : Int) < ((is.length : Nat) : Int) := by omega
      have w1 : IntKind.i64.wrap ((n : Int) + 1) = ((n + 1 : Nat) : Int) := by rw [wrap_in _ (by omega) (by omega)]; omega
      have w2 : IntKind.i64.wrap ((n : Int) - 1) = ((n - 1 : Nat) : Int) := by rw [wrap_in _ (by omega) (by omega)]; omega
      have hle : ¬ a.i ≤ b.i := by omega
      refine ⟨[Z x, I .i64 ((n + 1 : Nat) : Int)], u, q - 1, ?_, by omega, n + 1, by omega, by omega, rfl, rfl⟩
      unfold f12_l1
      clear hn
      generalize ((n + 1 : Nat) : Int) = N1 at *
      generalize ((n - 1 : Nat) : Int) = N2 at *
      generalize ((n : Nat) : Int) = N0 at *
      generalize ((is.length : Nat) : Int) = LL at *
      generalize p + 0 = p0 at *
      generalize p' + 0 = p1 at *
      simp [ll, c0, ix, fa, l0, w2, ix', fa', l0', hle, w1]
    · right
      have c0 : ¬ ((n : Nat) : Int) < ((is.length : Nat) : Int) := by omega
      refine ⟨_, u, ?_, (fun v hv => by cases hv), rfl, rfl⟩
      unfold f12_l1
      simp [ll, c0]) 8192 is.length [Z x, I .i64 1] s ⟨1, by omega, by omega, rfl, rfl⟩ (by omega)
  exact lp

set_option maxHeartbeats 2000000 in
theorem folds_run (d : Nat) (wf : s.wf) {is : List Int} {cut : Int} (hx : Rd 1 s x is.length (I64 is)) (hox : ∀ c, own x = some c → c < s.size) : ∃ t, R (d + 12) 12 [Z x, I .i64 cut] s = some (B true, t) := by
  rw [f12_run]
  unfold f12
  obtain ⟨hm, hw, hl⟩ := rowsE_may is
  have htk := rows_taken is
  obtain ⟨o, s1, e1, f1⟩ := rows_run (d + 10) wf hx hox
  generalize rowsE is = l at *
  have ho1 : ∀ c, own o = some c → c < s1.size := fun c hc => (f1.new c hc).2
  have hxl : ∀ e ∈ l, e.x.length ≤ 8000 := fun e he => by
    have := mayE_x (List.all_eq_true.1 hm e he)
    omega
  have ll := f1.rd.lens
  obtain ⟨k, hk, _, c1, c2, r1, c3⟩ := mod_run cut (n := l.length + 1) (by omega) (by omega)
  have w1 : IntKind.i64.wrap (((l.length : Nat) : Int) + 1) = ((l.length + 1 : Nat) : Int) := by rw [wrap_in _ (by omega) (by omega)]; omega
  obtain ⟨y2, s2, e2, g2, ri2, oy2⟩ := foldU_run d f1.gr.wf f1.rd ho1 (by omega)
  obtain ⟨r, hr⟩ : ∃ r, r = foldGo fs0 l := ⟨_, rfl⟩
  have hr0 : r.1 = 0 := by rw [hr]; exact htk
  have hok : FOk r.2 := by rw [hr]; exact foldGo_ok l fs0 fs0_ok
  have hrl : resL r = r.2.l := by unfold resL; rw [if_pos hr0]
  rw [← hr] at e2 ri2
  obtain ⟨s3, s4, n3, st4, g4, b4, z4⟩ := polBox g2.wf (resQ r)
  have g24 := g2.trans g4
  have o4 : RE s4 o l := f1.rd.gr ho1 g24
  have oo4 : ∀ c, own o = some c → c < s4.size := fun c hc => Nat.lt_of_lt_of_le (ho1 c hc) g24.2.1
  obtain ⟨y5, s5, e5, g5, ri5, oy5⟩ := rfoldU_run (d + 6) g4.wf o4 oo4 (by omega) hxl
  rw [← hr] at e5 ri5
  obtain ⟨s6, s7, n6, st7, g7, b7, z7⟩ := polBox g5.wf (resQ r)
  have g47 := g5.trans g7
  have o7 : RE s7 o l := o4.gr oo4 g47
  have oo7 : ∀ c, own o = some c → c < s7.size := fun c hc => Nat.lt_of_lt_of_le (oo4 c hc) g47.2.1
  obtain ⟨yp, pc, rdp, owp⟩ := Rd.upto o7 (hi := k) (by omega)
  rw [cells_take cE_len] at rdp
  have htl : (l.take k).length = k := by rw [List.length_take]; omega
  have rep : RE s7 yp (l.take k) := by unfold RE; rw [htl]; exact rdp
  have oop : ∀ c, own yp = some c → c < s7.size := fun c hc => by
    rcases owp with h | h
    · rw [h] at hc; cases hc
    · rw [h] at hc; exact oo7 c hc
  obtain ⟨y8, s8, e8, g8, _, _⟩ := foldU_run d g7.wf rep oop (by omega)
  have hp0 := foldGo_pre htk k
  obtain ⟨rp, hrp⟩ : ∃ rp, rp = foldGo fs0 (l.take k) := ⟨_, rfl⟩
  rw [← hrp] at e8 hp0
  obtain ⟨s9, s10, n9, st10, g10, b10, z10⟩ := polBox g8.wf (resQ rp)
  have g710 := g8.trans g10
  have g410 := g47.trans g710
  have p10 : aLoadN 6 (Z (.ptr s2.size 0)) s10.get = some (AP (resQ r)) := load6 (g410.get b4 g4.wf)
  have p10' : aLoadN 6 (Z (.ptr s5.size 0)) s10.get = some (AP (resQ r)) := load6 (g710.get b7 g7.wf)
  have q10 : RI s10 y2 (resL r) := ri2.gr oy2 (g4.trans g410)
  have q10' : RI s10 y5 (resL r) := ri5.gr oy5 (g7.trans g710)
  have hlen : (resL r).length ≤ 8000 := by
    rw [hrl]
    have h1 := hok.len
    have h2 : ∀ (l : List Ent) (q : FoS), (foldGo q l).2.ever.length ≤ q.ever.length + l.length := by
      intro l
      induction l with
      | nil => intro q; exact Nat.le_refl _
      | cons e l ih =>
        intro q
        rw [foldGo_cons]
        split
        · have := ih (nextP q e)
          have := next_ever (q := q) (e := e)
          simp only [List.length_cons]
          omega
        · simp only [List.length_cons]; omega
    have h3 := h2 l fs0
    rw [← hr] at h3
    have h4 : fs0.ever.length = 0 := rfl
    omega
  have si := sameInfo_run (d + 9) q10 q10' hlen
  rw [decide_eq_true rfl] at si
  have ne := neBP (resQ r) (resQ r)
  rw [decide_eq_true rfl] at ne
  have lr := rise_run (R (d + 11)) q10 (by rw [hrl]; exact hok.up) hlen
  have tl := told9_run (d + 10) s10
  simp only [Nat.add_assoc, Nat.reduceAdd, resU, hr0, hp0] at e1 e2 e5 e8 si tl
  refine ⟨s10, ?_⟩
  clear hm hw htk hr hrl hp0 hrp
  generalize R (d + 11) = r at *
  generalize ((l.length + 1 : Nat) : Int) = L1 at *
  generalize ((l.length : Nat) : Int) = LL at *
  generalize ((k : Nat) : Int) = K at *
  generalize ((rowK cut : Nat) : Int) = RK at *
  generalize s2.size = z2 at *
  generalize s5.size = z5 at *
  generalize s8.size = z8 at *
  simp [e1, ll, c1, w1, c2, r1, c3, e2, aExtract, n3, st4, gtt, e5, n6, st7, pc, e8, n9, st10, p10, p10', ne, si, lr, tl]
end
end Go.Proofs.YtlhbidbdmdcdeaaGreatDoor

/-
  Functions of the library in this program, as the kit lays them. No conditions.
-/
namespace Go.Proofs
open Go.Shelf
def Tryz.lays156_ren : Go.Shelf.Ren := ⟨fun | 156 => 79 | 165 => 93 | 166 => 94 | 169 => 95 | 240 => 106 | 241 => 107 | 276 => 118 | 277 => 119 | n => n, fun | 31 => 49 | 9 => 9 | 3 => 3 | 4 => 4 | 0 => 0 | 20 => 20 | 72 => 128 | 76 => 132 | 70 => 126 | 37 => 27 | 75 => 131 | 127 => 142 | 164 => 152 | 5 => 5 | 80 => 134 | n => n, fun | n => n⟩
theorem Tryz.lays156 : Go.Proofs.Lays.n156 Tryz.prog Tryz.lays156_ren := {
  mixed := by kernel_rfl
  f156 := Tryz.func79.trans (congrArg some (by kernel_rfl))
  f165 := Tryz.func93.trans (congrArg some (by kernel_rfl))
  f166 := Tryz.func94.trans (congrArg some (by kernel_rfl))
  f169 := Tryz.func95.trans (congrArg some (by kernel_rfl))
  f240 := Tryz.func106.trans (congrArg some (by kernel_rfl))
  f241 := Tryz.func107.trans (congrArg some (by kernel_rfl))
  f276 := Tryz.func118.trans (congrArg some (by kernel_rfl))
  f277 := Tryz.func119.trans (congrArg some (by kernel_rfl))
  t0 := Tryz.underlying0
  a0 := Tryz.isAgg0
  z0 := Tryz.sizeOf0
  v0 := Tryz.zeroValue0
  t3 := Tryz.underlying3
  a3 := Tryz.isAgg3
  z3 := Tryz.sizeOf3
  v3 := Tryz.zeroValue3
  t4 := Tryz.underlying4
  a4 := Tryz.isAgg4
  z4 := Tryz.sizeOf4
  v4 := Tryz.zeroValue4
  t9 := Tryz.underlying9
  a9 := Tryz.isAgg9
  z9 := Tryz.sizeOf9
  v9 := Tryz.zeroValue9
  t20 := Tryz.underlying20
  a20 := Tryz.isAgg20
  z20 := Tryz.sizeOf20
  v20 := Tryz.zeroValue20
  t31 := Tryz.underlying49
  a31 := Tryz.isAgg49
  z31 := Tryz.sizeOf49
  v31 := Tryz.zeroValue49
  t37 := Tryz.underlying27
  a37 := Tryz.isAgg27
  z37 := Tryz.sizeOf27
  v37 := Tryz.zeroValue27
  t70 := Tryz.underlying126
  a70 := Tryz.isAgg126
  z70 := Tryz.sizeOf126
  v70 := Tryz.zeroValue126
  t72 := Tryz.underlying128
  a72 := Tryz.isAgg128
  z72 := Tryz.sizeOf128
  v72 := Tryz.zeroValue128
  t75 := Tryz.underlying131
  a75 := Tryz.isAgg131
  z75 := Tryz.sizeOf131
  v75 := Tryz.zeroValue131
  t76 := Tryz.underlying132
  a76 := Tryz.isAgg132
  z76 := Tryz.sizeOf132
  v76 := Tryz.zeroValue132
  t127 := Tryz.underlying142
  a127 := Tryz.isAgg142
  z127 := Tryz.sizeOf142
  v127 := Tryz.zeroValue142
  t164 := Tryz.underlying152
  a164 := Tryz.isAgg152
  z164 := Tryz.sizeOf152
  v164 := Tryz.zeroValue152 }
theorem Tryz.Builder_Extra_156 : Builder.Extra Tryz.prog Tryz.lays156_ren := {
  sizeBuilder := by kernel_rfl
  liesBuilder := by kernel_rfl
  t5 := Tryz.underlying5
  a5 := Tryz.isAgg5
  z5 := Tryz.sizeOf5
  v5 := Tryz.zeroValue5
  infoByte := by kernel_rfl
  cellsByte := by kernel_rfl
  sizeByte := by kernel_rfl
  neB5 := by decide }
open Go.RowKit in
/-- No element: the empty string; the world is as it was. (Whatever the slice's address and capacity: a nil slice too.) (LAID: no walk: one application.) -/
theorem Tryz.strings_Join_none (a : Option Addr) (c : Nat) (sep : ByteArray) (w : World) :
    Calls Tryz.prog 79 #[.slice a 0 c, .string sep] w fun e w' => e = .returned (.string ⟨#[]⟩) ∧ w' = w := Any.strings_Join_none Tryz.lays156 Tryz.Builder_Extra_156 a c sep w
open Go.RowKit in
/-- strings.Join: "Join concatenates the elements of its first argument to create a single string. The separator string sep is placed between elements in the resulting string.": HOWEVER MANY ELEMENTS. Below the heap's end the world is as it was. (LAID: no walk: one application.) -/
theorem Tryz.strings_Join (bk o c : Nat) (xs : List ByteArray) (sep : ByteArray) (w : World) (hcells : ∀ (j : Nat) x, xs[j]? = some x → w.cell? ⟨bk, o + j, none⟩ = some (.string x)) (hbk : bk < w.heap.size) (hN : xs.length ≤ 140737488355328) (hcap : xs.length ≤ c) (hlen : (Lib.join (xs.map (·.data.toList)) sep.data.toList).length ≤ 140737488355328) :
    Calls Tryz.prog 79 #[.slice (some ⟨bk, o, none⟩) xs.length c, .string sep] w fun e w' => e = .returned (.string ⟨(Lib.join (xs.map (·.data.toList)) sep.data.toList).toArray⟩) ∧ Below w.heap.size w w' := Any.strings_Join Tryz.lays156 Tryz.Builder_Extra_156 bk o c xs sep w hcells hbk hN hcap hlen
def Tryz.lays219_ren : Go.Shelf.Ren := ⟨fun | 219 => 105 | 217 => 114 | 225 => 115 | 224 => 116 | 267 => 117 | 266 => 130 | 314 => 131 | n => n, fun | 9 => 9 | 3 => 3 | 4 => 4 | 5 => 5 | 46 => 22 | 146 => 163 | 51 => 23 | n => n, fun | 1 => 0 | n => n⟩
theorem Tryz.lays219 : Go.Proofs.Lays.n219 Tryz.prog Tryz.lays219_ren := {
  mixed := by kernel_rfl
  f217 := Tryz.func114.trans (congrArg some (by kernel_rfl))
  f219 := Tryz.func105.trans (congrArg some (by kernel_rfl))
  f224 := Tryz.func116.trans (congrArg some (by kernel_rfl))
  f225 := Tryz.func115.trans (congrArg some (by kernel_rfl))
  f266 := Tryz.func130.trans (congrArg some (by kernel_rfl))
  f267 := Tryz.func117.trans (congrArg some (by kernel_rfl))
  f314 := Tryz.func131.trans (congrArg some (by kernel_rfl))
  t3 := Tryz.underlying3
  a3 := Tryz.isAgg3
  z3 := Tryz.sizeOf3
  v3 := Tryz.zeroValue3
  t4 := Tryz.underlying4
  a4 := Tryz.isAgg4
  z4 := Tryz.sizeOf4
  v4 := Tryz.zeroValue4
  t5 := Tryz.underlying5
  a5 := Tryz.isAgg5
  z5 := Tryz.sizeOf5
  v5 := Tryz.zeroValue5
  t9 := Tryz.underlying9
  a9 := Tryz.isAgg9
  z9 := Tryz.sizeOf9
  v9 := Tryz.zeroValue9
  t46 := Tryz.underlying22
  a46 := Tryz.isAgg22
  z46 := Tryz.sizeOf22
  v46 := Tryz.zeroValue22
  t51 := Tryz.underlying23
  a51 := Tryz.isAgg23
  z51 := Tryz.sizeOf23
  v51 := Tryz.zeroValue23
  t146 := Tryz.underlying163
  a146 := Tryz.isAgg163
  z146 := Tryz.sizeOf163
  v146 := Tryz.zeroValue163
  g1 := by kernel_rfl }
open Go.RowKit Go.Lib in
/-- internal/stringslite.Index (what strings.Index calls) AT A substr OF ONE BYTE c: IT RETURNS 'Lib.indexByte s c'; the world is as it was. (LAID: no walk: one application.) -/
theorem Tryz.stringslite_Index_one (s : ByteArray) (c : UInt8) (w : World) :
    Calls Tryz.prog 105 #[.string s, .string ⟨#[c]⟩] w fun e w' => e = .returned (.int .i64 (Lib.indexByte s.data.toList c)) ∧ w' = w := Any.stringslite_Index_one Tryz.lays219 s c w
def Tryz.lays143_ren : Go.Shelf.Ren := ⟨fun | 143 => 104 | 219 => 105 | 217 => 114 | 225 => 115 | 224 => 116 | 267 => 117 | 266 => 130 | 314 => 131 | n => n, fun | 9 => 9 | 3 => 3 | 4 => 4 | 5 => 5 | 46 => 22 | 146 => 163 | 51 => 23 | n => n, fun | 1 => 0 | n => n⟩
theorem Tryz.lays143 : Go.Proofs.Lays.n143 Tryz.prog Tryz.lays143_ren := {
  mixed := by kernel_rfl
  f143 := Tryz.func104.trans (congrArg some (by kernel_rfl))
  f217 := Tryz.func114.trans (congrArg some (by kernel_rfl))
  f219 := Tryz.func105.trans (congrArg some (by kernel_rfl))
  f224 := Tryz.func116.trans (congrArg some (by kernel_rfl))
  f225 := Tryz.func115.trans (congrArg some (by kernel_rfl))
  f266 := Tryz.func130.trans (congrArg some (by kernel_rfl))
  f267 := Tryz.func117.trans (congrArg some (by kernel_rfl))
  f314 := Tryz.func131.trans (congrArg some (by kernel_rfl))
  t3 := Tryz.underlying3
  a3 := Tryz.isAgg3
  z3 := Tryz.sizeOf3
  v3 := Tryz.zeroValue3
  t4 := Tryz.underlying4
  a4 := Tryz.isAgg4
  z4 := Tryz.sizeOf4
  v4 := Tryz.zeroValue4
  t5 := Tryz.underlying5
  a5 := Tryz.isAgg5
  z5 := Tryz.sizeOf5
  v5 := Tryz.zeroValue5
  t9 := Tryz.underlying9
  a9 := Tryz.isAgg9
  z9 := Tryz.sizeOf9
  v9 := Tryz.zeroValue9
  t46 := Tryz.underlying22
  a46 := Tryz.isAgg22
  z46 := Tryz.sizeOf22
  v46 := Tryz.zeroValue22
  t51 := Tryz.underlying23
  a51 := Tryz.isAgg23
  z51 := Tryz.sizeOf23
  v51 := Tryz.zeroValue23
  t146 := Tryz.underlying163
  a146 := Tryz.isAgg163
  z146 := Tryz.sizeOf163
  v146 := Tryz.zeroValue163
  g1 := by kernel_rfl }
open Go.RowKit Go.Lib in
/-- strings.Index: "Index returns the index of the first instance of substr in s, or -1 if substr is not present in s.": AT A substr OF ONE BYTE c: IT RETURNS 'Lib.indexByte s c'; the world is as it was. (LAID: no walk: one application.) -/
theorem Tryz.strings_Index_one (s : ByteArray) (c : UInt8) (w : World) :
    Calls Tryz.prog 104 #[.string s, .string ⟨#[c]⟩] w fun e w' => e = .returned (.int .i64 (Lib.indexByte s.data.toList c)) ∧ w' = w := Any.strings_Index_one Tryz.lays143 s c w
def Tryz.lays138_ren : Go.Shelf.Ren := ⟨fun | 138 => 103 | 195 => 111 | 218 => 113 | 143 => 104 | 219 => 105 | 217 => 114 | 225 => 115 | 224 => 116 | 267 => 117 | 266 => 130 | 314 => 131 | n => n, fun | 9 => 9 | 3 => 3 | 4 => 4 | 5 => 5 | 0 => 0 | 46 => 22 | 146 => 163 | 51 => 23 | n => n, fun | 1 => 0 | n => n⟩
theorem Tryz.lays138 : Go.Proofs.Lays.n138 Tryz.prog Tryz.lays138_ren := {
  mixed := by kernel_rfl
  f138 := Tryz.func103.trans (congrArg some (by kernel_rfl))
  f143 := Tryz.func104.trans (congrArg some (by kernel_rfl))
  f195 := Tryz.func111.trans (congrArg some (by kernel_rfl))
  f217 := Tryz.func114.trans (congrArg some (by kernel_rfl))
  f218 := Tryz.func113.trans (congrArg some (by kernel_rfl))
  f219 := Tryz.func105.trans (congrArg some (by kernel_rfl))
  f224 := Tryz.func116.trans (congrArg some (by kernel_rfl))
  f225 := Tryz.func115.trans (congrArg some (by kernel_rfl))
  f266 := Tryz.func130.trans (congrArg some (by kernel_rfl))
  f267 := Tryz.func117.trans (congrArg some (by kernel_rfl))
  f314 := Tryz.func131.trans (congrArg some (by kernel_rfl))
  t0 := Tryz.underlying0
  a0 := Tryz.isAgg0
  z0 := Tryz.sizeOf0
  v0 := Tryz.zeroValue0
  t3 := Tryz.underlying3
  a3 := Tryz.isAgg3
  z3 := Tryz.sizeOf3
  v3 := Tryz.zeroValue3
  t4 := Tryz.underlying4
  a4 := Tryz.isAgg4
  z4 := Tryz.sizeOf4
  v4 := Tryz.zeroValue4
  t5 := Tryz.underlying5
  a5 := Tryz.isAgg5
  z5 := Tryz.sizeOf5
  v5 := Tryz.zeroValue5
  t9 := Tryz.underlying9
  a9 := Tryz.isAgg9
  z9 := Tryz.sizeOf9
  v9 := Tryz.zeroValue9
  t46 := Tryz.underlying22
  a46 := Tryz.isAgg22
  z46 := Tryz.sizeOf22
  v46 := Tryz.zeroValue22
  t51 := Tryz.underlying23
  a51 := Tryz.isAgg23
  z51 := Tryz.sizeOf23
  v51 := Tryz.zeroValue23
  t146 := Tryz.underlying163
  a146 := Tryz.isAgg163
  z146 := Tryz.sizeOf163
  v146 := Tryz.zeroValue163
  g1 := by kernel_rfl }
open Go.RowKit Go.Lib in
/-- strings.Count AT A substr OF ONE BYTE ('hp'): "Count counts the number of non-overlapping instances of substr in s.": IT RETURNS 'Lib.countByte s (that byte)'; the world is as it was. ✋ NO CONTRACT HERE YET at an empty substr (utf8.RuneCountInString) or at a longer one (a loop over strings.Index). (LAID: no walk: one application.) -/
theorem Tryz.strings_Count_one (s : ByteArray) (c : UInt8) (w : World) :
    Calls Tryz.prog 103 #[.string s, .string ⟨#[c]⟩] w fun e w' => e = .returned (.int .i64 (Lib.countByte s.data.toList c)) ∧ w' = w := Any.strings_Count_one Tryz.lays138 s c w
end Go.Proofs

/-
  What our runs ask first is what the program does. No conditions.
-/
namespace Go.Proofs.YtlhbidbdmdcdeaaGreatDoor
open Go Go.Abs Go.Abs.F
set_option linter.unusedVariables false

theorem prim1_sound : CallSound Tryz.prog prim1 := by
  refine orP_sound (orP_sound (ixP_sound ?_ ?_) (joinP_sound ?_ ?_)) (pureP_sound (runQ_sound noPrim_sound 64 8) _)
  · intro f hf s c w
    have : f = 104 ∨ f = 105 := by simpa [ixs] using hf
    rcases this with rfl | rfl
    · exact Tryz.strings_Index_one s c w
    · exact Tryz.stringslite_Index_one s c w
  · exact fun s c w => Tryz.strings_Count_one s c w
  · exact fun a c sep w => Tryz.strings_Join_none a c sep w
  · exact fun bk o c xs sep w h1 h2 h3 h4 h5 => Tryz.strings_Join bk o c xs sep w h1 h2 h3 h4 h5

theorem prim3_sound : CallSound Tryz.prog prim3 := orP_sound (orP_sound (bigP_sound _ _) (orP_sound del_sound ins_sound)) prim1_sound
theorem prim_sound : CallSound Tryz.prog prim := orP_sound (toldP_sound (runQ_sound prim3_sound 64 16) told10_all) (orP_sound (toldP_sound (runQ_sound prim3_sound 64 16) told9_all) prim3_sound)
end Go.Proofs.YtlhbidbdmdcdeaaGreatDoor
