/-
  Frames: what log.Read computes, in any store. No conditions but those named in each line.
-/
import Derived.Test.YtlhbidbdmdcdeaaGreatDoorLog2
namespace Go.Proofs.YtlhbidbdmdcdeaaGreatDoor
open Go Go.Abs Go.Abs.F
set_option linter.unusedVariables false
section
variable {s t : St} {x y : S} {bs cs : Bs} {i : Nat} {l m : List Ent}

theorem openB_le {a e : Nat} {p : Bs} (h : openB bs a = some (p, e)) : e ≤ bs.length := by
  unfold openB at h
  split at h
  · cases h
  · split at h
    · cases h
    · split at h
      · cases h; omega
      · cases h

abbrev resR (y : S) (p : List Ent × Nat) : T := .tup [.s y, .s (.int .i64 (p.2 : Nat))]

theorem read_run (d : Nat) (wf : s.wf) (h : RB s x bs) (hox : ∀ c, own x = some c → c < s.size) (hl : bs.length ≤ 100000) (V : Nat → Prop) (v0 : V 0) (v1 : ∀ a p e, V a → openB bs a = some (p, e) → V e)
    (v2 : ∀ a n to, V a → vget bs a = some (n, to) → bs.length - to - 4 < n ∨ n ≤ 7900) :
    ∃ y t, R (d + 11) 16 [Z x] s = some (resR y (readP bs), t) ∧ FE s t y (readP bs).1 := by
  rw [f16_run]
  unfold f16
  obtain ⟨j, τ, lp, z, hj, f⟩ := loops_inv (f := f16_l1 (R (d + 10)) 8192) (fun q v u => ∃ (at_ : Nat) (z : S) (acc : List Ent), q + acc.length = 2000 ∧ v = [Z x, Z z, I .i64 (at_ : Nat)] ∧ FE s u z acc ∧ V at_ ∧ at_ ≤ bs.length ∧ readL bs q at_ acc = readP bs)
    (fun j u => ∃ z, j = .exit 0 [Z z, I .i64 ((readP bs).2 : Nat)] ∧ FE s u z (readP bs).1) (by
    rintro q v u ⟨at_, z, acc, hq, rfl, f, hv, ha, hr⟩
    have hll := f.rd.lens
    by_cases hc : acc.length < 2000
    · obtain ⟨q', rfl⟩ : ∃ q', q = q' + 1 := ⟨q - 1, by omega⟩
      obtain ⟨y, u1, e1, g1, o1⟩ := open_run (d + 6) f.gr.wf (h.gr hox f.gr) (fun c hc => Nat.lt_of_lt_of_le (hox c hc) f.gr.2.1) hl ha (fun n to => v2 at_ n to hv)
      simp only [Nat.add_assoc, Nat.reduceAdd] at e1
      have c0 : ((acc.length : Nat) : Int) < 2000 := by omega
      unfold readL at hr
      cases ho : openB bs at_ with
      | none =>
        rw [ho] at e1 hr
        right
        refine ⟨.exit 0 [Z z, I .i64 (at_ : Nat)], u1, ?_, (fun v hv => by cases hv), z, ?_, ?_⟩
        · unfold f16_l1
          generalize ((acc.length : Nat) : Int) = L at *
          generalize ((at_ : Nat) : Int) = A at *
          generalize R (d + 10) = r at *
          simp [hll, c0, e1, aExtract, gtt]
        · rw [← hr]
        · rw [← hr]; exact f.gr' g1
      | some pe =>
        obtain ⟨p, e⟩ := pe
        rw [ho] at e1 hr
        simp only at hr
        obtain ⟨ry, oy, he, hp⟩ := o1 p e ho
        obtain ⟨u2, e2, g2⟩ := get_run d g1.wf ry oy (by omega)
        obtain ⟨u3, hu3⟩ : ∃ u3, u3 = u2.push (.cells true (cE ent0)) := ⟨_, rfl⟩
        have b0 : u3.get u2.size = some (.cells true (cE ent0)) := by rw [hu3]; exact St.get_push_same _ _
        have g3 : Gr u2 u3 := by rw [hu3]; exact Gr.push g2.wf _
        have z3 : u3.size = u2.size + 1 := by rw [hu3]; simp
        have nw : aNew u2 (nCells [.int .i64 0, .int .i64 0, .int .i64 0, .int .i64 0, .int .i64 0, .int .i64 0, .int .u32 0, .str []]) = some (Z (.ptr u2.size 0), u3) := by rw [hu3]; rfl
        have gset : ∀ b : Blk, Gr u2 (u3.set u2.size b) := fun b =>
          ⟨St.wf_set g3.wf (by omega) _, by simpa using g3.2.1, fun c hc => by rw [St.get_set_ne _ _ (by omega)]; exact g3.2.2 c hc⟩
        cases hg : getE p with
        | none =>
          rw [hg] at e2 hr
          have st := store8 (e := ent0) b0 rfl
          right
          refine ⟨.exit 0 [Z z, I .i64 (at_ : Nat)], u3.set u2.size (.cells true (cE ent0)), ?_, (fun v hv => by cases hv), z, ?_, ?_⟩
          rotate_left
          · rw [← hr]
          · rw [← hr]; exact f.gr' ((g1.trans g2).trans (gset _))
          · unfold f16_l1
            generalize ((acc.length : Nat) : Int) = L at *
            generalize ((at_ : Nat) : Int) = A at *
            generalize ((e : Nat) : Int) = E at *
            generalize R (d + 10) = r at *
            simp [hll, c0, e1, aExtract, e2, nw, st, gtt]
        | some en =>
          rw [hg] at e2 hr
          obtain ⟨w, hw⟩ : ∃ w, w = u3.set u2.size (.cells true (cE en)) := ⟨_, rfl⟩
          have st : aStore 8 (Z (.ptr u2.size 0)) (AE en) u3 = some (tt, w) := by rw [hw]; exact store8 b0 rfl
          have ld : aLoadN 8 (Z (.ptr u2.size 0)) w.get = some (AE en) := by rw [hw]; exact load8 (St.get_set_same _ _ _)
          have gw : Gr u2 w := by rw [hw]; exact gset _
          obtain ⟨z2, u5, u4, nw2, ap, f5, _⟩ := FE.lit (e := en) (f.gr' ((g1.trans g2).trans gw)) (by omega)
          left
          refine ⟨[Z x, Z z2, I .i64 (e : Nat)], u5, q', ?_, rfl, e, z2, acc ++ [en], by simp; omega, rfl, f5, v1 _ _ _ hv ho, he, hr⟩
          unfold f16_l1
          generalize ((acc.length : Nat) : Int) = L at *
          generalize ((at_ : Nat) : Int) = A at *
          generalize R (d + 10) = r at *
          simp [hll, c0, e1, aExtract, e2, nw, st, ld, nw2, ap]
    · have hq0 : q = 0 := by omega
      subst hq0
      have c0 : ¬ ((acc.length : Nat) : Int) < 2000 := by omega
      right
      refine ⟨.exit 0 [Z z, I .i64 (at_ : Nat)], u, ?_, (fun v hv => by cases hv), z, ?_, ?_⟩
      · unfold f16_l1
        generalize ((acc.length : Nat) : Int) = L at *
        simp [hll, c0]
      · rw [← hr]; rfl
      · rw [← hr]; exact f) 8192 2000 [Z x, Z .nils, I .i64 0] s ⟨0, .nils, [], rfl, rfl, by exact Fr.nil 8 wf, v0, by omega, rfl⟩ (by omega)
  subst hj
  exact ⟨z, τ, by simp [lp, retT, allV], f⟩

/-- Few bytes: no condition. -/
theorem read_run' (d : Nat) (wf : s.wf) (h : RB s x bs) (hox : ∀ c, own x = some c → c < s.size) (hl : bs.length ≤ 7900) : ∃ y t, R (d + 11) 16 [Z x] s = some (resR y (readP bs), t) ∧ FE s t y (readP bs).1 :=
  read_run d wf h hox (by omega) (fun _ => True) trivial (fun _ _ _ _ _ => trivial) (fun a n to _ hv => by
    by_cases c : bs.length - to - 4 < n
    · exact .inl c
    · exact .inr (by omega))
end
end Go.Proofs.YtlhbidbdmdcdeaaGreatDoor
