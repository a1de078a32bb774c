/-
  'opP' is sound.
-/
import Derived.Test.YtgecidicpdobfaaDoorAbsPure6
namespace Go.Abs
open Go
section
variable {P : Program} {ι : Inj} {w : World}

theorem opP_run {o : Oper} {ev : Operand → T} {ρ : Operand → Value} {r : T} (hev : ∀ x ∈ o.op.operands, TRel ι (ev x) (ρ x)) (h : opP P o.op ev = some r) :
    ∃ v, (execOp ρ o).run P w = .ok (.value v) w ∧ TRel ι r v := by
  obtain ⟨dst, op, ty, pos, after, guard⟩ := o
  simp only at hev h
  have fin : ∀ (s : Sem Value), execOp ρ ⟨dst, op, ty, pos, after, guard⟩ = (do pure (Next.value (← s))) → (∃ v, s.run P w = .ok v w ∧ TRel ι r v) →
      ∃ v, (execOp ρ ⟨dst, op, ty, pos, after, guard⟩).run P w = .ok (.value v) w ∧ TRel ι r v := by
    intro s he ⟨v, h1, h2⟩
    exact ⟨v, by rw [he]; exact run_value h1, h2⟩
  cases op with
  | move x => simp only [opP] at h; cases h; exact ⟨ρ x, rfl, hev x (by simp [Op.operands])⟩
  | assign x => simp only [opP] at h; cases h; exact ⟨ρ x, rfl, hev x (by simp [Op.operands])⟩
  | pick c a b =>
    simp only [opP] at h
    obtain ⟨v, h1, h2⟩ := aPick_run (P := P) (w := w) (hev c (by simp [Op.operands])) (hev a (by simp [Op.operands])) (hev b (by simp [Op.operands])) h
    refine ⟨v, ?_, h2⟩
    simp only [run_bind] at h1
    simp only [execOp, run_bind]
    cases hb : (asBool (ρ c)).run P w with
    | halt x w' => rw [hb] at h1; cases h1
    | ok b w' =>
      rw [hb] at h1
      simp only [run_pure] at h1 ⊢
      cases h1; rfl
  | build t parts =>
    refine fin _ rfl (build_run (ev := ev) ?_ h)
    intro p hp
    refine hev p.2 ?_
    simp only [Op.operands, List.mem_toArray, List.mem_map]
    exact ⟨p, by simpa using hp, rfl⟩
  | nilCheck x => simp only [opP] at h; exact nil_run rfl rfl (hev x (by simp [Op.operands])) h
  | binOp op t x y yt =>
    have hx := hev x (by simp [Op.operands])
    have hy := hev y (by simp [Op.operands])
    simp only [opP] at h
    split at h
    · exact fin _ rfl (aBin_run hx hy h x y)
    · exact fin _ rfl (aBin_run hx hy h x y)
    · split at h
      · rename_i hk
        split at h
        · rename_i hc
          split at h
          · rename_i b hb
            cases h
            exact fin _ rfl ⟨_, aEq_run (P := P) hk hx hy hb false x y (fun _ => hc), by simp [TRel, VRel, SRel]⟩
          · cases h
        · cases h
      · rename_i hk
        split at h
        · rename_i hc
          split at h
          · rename_i b hb
            cases h
            exact fin _ rfl ⟨_, aEq_run (P := P) hk hx hy hb true x y (fun _ => hc), by simp [TRel, VRel, SRel]⟩
          · cases h
        · cases h
      · rename_i k hne hk
        split at h
        · rename_i b hb
          cases h
          exact fin _ rfl ⟨_, aEq_run (P := P) hk hx hy hb false x y (fun e => (hne e).elim), by simp [TRel, VRel, SRel]⟩
        · cases h
      · rename_i k hne hk
        split at h
        · rename_i b hb
          cases h
          exact fin _ rfl ⟨_, aEq_run (P := P) hk hx hy hb true x y (fun e => (hne e).elim), by simp [TRel, VRel, SRel]⟩
        · cases h
      · cases h
  | unOp op t x => simp only [opP] at h; exact fin _ rfl (aUn_run (hev x (by simp [Op.operands])) h)
  | convert s d x =>
    have hx := hev x (by simp [Op.operands])
    simp only [opP] at h
    split at h
    · rename_i d' k hs hd
      unfold aConv at h
      split at h
      · rename_i k' n he
        rw [he] at hx
        simp only [TRel, VRel, SRel] at hx
        cases h
        refine fin _ rfl ⟨.int k (k.wrap n), ?_, rfl⟩
        rw [hx]
        simp only [Go.convert, run_bind, run_und hs, run_und hd]
        cases d' <;> rfl
      · cases h
    · rename_i hs hd
      unfold aConvS at h
      split at h
      · rename_i l he
        cases h
        rw [he] at hx
        obtain ⟨s', e, r⟩ := hx
        have hr : TRel ι (ev x) (.string s') := by rw [he]; exact ⟨s', rfl, r⟩
        refine fin _ rfl ⟨.string s', ?_, hr⟩
        rw [e]
        simp only [Go.convert, run_bind, run_und hs, run_und hd]
        rfl
      · cases h
    · cases h
  | makeFunc fn first caps =>
    cases fn with
    | func f =>
      simp only [opP] at h
      split at h
      · rename_i hf
        have hm : All2 (TRel ι) (caps.toList.map ev) (caps.toList.map ρ) := all2_map fun x hx => hev x (by simp [Op.operands]; exact .inr (by simpa using hx))
        have := clo_run f _ _ [] [] r hm .nil h
        refine fin _ rfl ⟨.func (.func f) (first.map ρ) (caps.map ρ), rfl, ?_⟩
        have e1 : first = #[] := Array.eq_empty_of_size_eq_zero hf
        subst e1
        have e2 : caps.map ρ = (List.map ρ caps.toList).toArray := by rw [← Array.toList_map]
        have e3 : Array.map ρ #[] = #[] := by simp
        rw [e2, e3]
        exact this
      · cases h
    | method _ => cases h
    | methodOf _ _ => cases h
    | via _ _ _ _ => cases h
    | yield _ => cases h
  | slice t x lo hi mx =>
    have hx := hev x (by simp [Op.operands])
    have h1 : ORel ι (lo.map ev) (lo.map ρ) := orel_map fun y hy => hev y (by subst hy; simp [Op.operands])
    have h2 : ORel ι (hi.map ev) (hi.map ρ) := orel_map fun y hy => hev y (by subst hy; simp [Op.operands])
    have h3 : ORel ι (mx.map ev) (mx.map ρ) := orel_map fun y hy => hev y (by subst hy; simp [Op.operands])
    simp only [opP] at h
    split at h
    · rename_i hu; exact fin _ rfl (pieceStr_run hu hx h1 h2 h3 h)
    · rename_i e hu
      split at h
      · rename_i n hn; exact fin _ rfl (pieceSl_run hu hn hx h1 h2 h3 h)
      · cases h
    · rename_i k e hu
      split at h
      · rename_i n hn; exact fin _ rfl (pieceArr_run hu hn hx h1 h2 h3 h)
      · cases h
    · cases h
  | fieldAddr s x f =>
    simp only [opP] at h
    split at h
    · rename_i fs hu
      split at h
      · rename_i fd hf
        split at h
        · rename_i n hn; exact fin _ rfl (fieldAddr_run hu hf hn (hev x (by simp [Op.operands])) h)
        · cases h
      · cases h
    · cases h
  | field t x f =>
    simp only [opP] at h
    split at h
    · rename_i fs hu
      split at h
      · rename_i fd hf
        split at h
        · rename_i k hk; exact fin _ rfl (field_run hu hf hk (hev x (by simp [Op.operands])) h)
        · cases h
      · cases h
    · cases h
  | indexAddr t x i =>
    have hx := hev x (by simp [Op.operands])
    have hi := hev i (by simp [Op.operands])
    simp only [opP] at h
    split at h
    · rename_i e hu
      split at h
      · rename_i n hn; exact fin _ rfl (indexSl_run hu hn hx hi h)
      · cases h
    · rename_i k e hu
      split at h
      · rename_i n hn; exact fin _ rfl (indexArr_run hu hn hx hi h)
      · cases h
    · cases h
  | index t x i =>
    have hx := hev x (by simp [Op.operands])
    have hi := hev i (by simp [Op.operands])
    simp only [opP] at h
    split at h
    · rename_i hu; exact fin _ rfl (atStr_run hu hx hi h)
    · rename_i k e hu
      split at h
      · rename_i n pk hn hpk; exact fin _ rfl (atArr_run hu hn hpk hx hi h)
      · cases h
    · cases h
  | extract x i =>
    have hx := hev x (by simp [Op.operands])
    simp only [opP] at h
    unfold aExtract at h
    split at h
    · rename_i l he
      rw [he] at hx
      obtain ⟨vs, hv, hr⟩ := hx
      split at h
      · rename_i y hy
        cases h
        obtain ⟨v, h1, h2⟩ := forall2_get hr i y hy
        refine fin _ rfl ⟨v, ?_, h2⟩
        rw [hv]
        simp [Instr.extract, h1, run_pure]
      · cases h
    · cases h
  | call c =>
    obtain ⟨callee, args, argTypes⟩ := c
    cases callee with
    | value f => simp [opP] at h
    | invoke r n => simp [opP] at h
    | builtin b =>
      have ha : ∀ x ∈ args, TRel ι (ev x) (ρ x) := fun x hx => hev x (by simp [Op.operands, Call.operands, hx])
      have one : ∀ {x : Operand}, args.toList = [x] → args = #[x] := by
        intro x e; rw [← Array.toArray_toList (xs := args), e]
      have onet : ∀ {x : TypeId}, argTypes.toList = [x] → argTypes = #[x] := by
        intro x e; rw [← Array.toArray_toList (xs := argTypes), e]
      have ht : All2 (TRel ι) (args.toList.map ev) (args.toList.map ρ) := all2_map fun x hx => ha x (by simpa using hx)
      cases b <;> first | (simp [opP] at h; done) | skip
      · simp only [opP] at h
        split at h
        · rename_i x t hx' ht'
          have ea := one hx'; have et := onet ht'; subst ea et
          have hx := ha x (by simp)
          split at h
          · rename_i e hu
            unfold aCap at h
            split at h
            · rename_i b o n c he
              cases h
              rw [he] at hx
              obtain ⟨L, hL, e', _⟩ := hx
              refine ⟨.int .i64 c, ?_, rfl⟩
              simp [execOp, resolve, invoke, Go.builtin, run_bind, run_pure, Builtin.cap_, run_und hu, e', goInt]
            · rename_i he
              cases h
              rw [he] at hx
              simp only [TRel, VRel, SRel] at hx
              refine ⟨.int .i64 0, ?_, rfl⟩
              simp [execOp, resolve, invoke, Go.builtin, run_bind, run_pure, Builtin.cap_, run_und hu, hx, goInt]
            · cases h
          · cases h
        · cases h
      · simp only [opP] at h
        split at h
        · rename_i x t hx' ht'
          have ea := one hx'; have et := onet ht'; subst ea et
          have hx := ha x (by simp)
          split at h
          · rename_i hu
            unfold aLenStr at h
            split at h
            · rename_i l he
              cases h
              rw [he] at hx
              obtain ⟨s, e', r⟩ := hx
              refine ⟨.int .i64 s.size, ?_, ?_⟩
              · simp [execOp, resolve, invoke, Go.builtin, run_bind, run_pure, Builtin.len_, run_und hu, e', goInt]
              · subst r
                rw [size_data]
                rfl
            · cases h
          · rename_i e hu
            unfold aLenSl at h
            split at h
            · rename_i b o n c he
              cases h
              rw [he] at hx
              have hs : ∃ a c, ρ x = .slice a n c := by
                cases c with
                | known c => obtain ⟨L, hL, e, _⟩ := hx; exact ⟨_, _, e⟩
                | grown g => obtain ⟨L, c, hL, e, _⟩ := hx; exact ⟨_, _, e⟩
              obtain ⟨a, c, e'⟩ := hs
              refine ⟨.int .i64 n, ?_, rfl⟩
              simp [execOp, resolve, invoke, Go.builtin, run_bind, run_pure, Builtin.len_, run_und hu, e', goInt]
            · rename_i b g he
              cases h
              rw [he] at hx
              obtain ⟨L, o, c, hL, e', _⟩ := hx
              refine ⟨.int .i64 0, ?_, rfl⟩
              simp [execOp, resolve, invoke, Go.builtin, run_bind, run_pure, Builtin.len_, run_und hu, e', goInt]
            · rename_i he
              cases h
              rw [he] at hx
              simp only [TRel, VRel, SRel] at hx
              refine ⟨.int .i64 0, ?_, rfl⟩
              simp [execOp, resolve, invoke, Go.builtin, run_bind, run_pure, Builtin.len_, run_und hu, hx, goInt]
            · cases h
          · rename_i n e hu
            cases h
            refine ⟨.int .i64 n, ?_, rfl⟩
            simp [execOp, resolve, invoke, Go.builtin, run_bind, run_pure, Builtin.len_, run_und hu, goInt]
          · cases h
        · cases h
      · simp only [opP] at h
        split at h
        · rename_i x r' he
          rw [he] at ht
          cases hm : args.toList.map ρ with
          | nil => rw [hm] at ht; cases ht
          | cons u vs =>
            rw [hm] at ht
            cases ht with
            | cons hx hr =>
              obtain ⟨z, h1, h2⟩ := fold_run (P := P) (w := w) aMax2 Builtin.max2 max2_run r' x r u vs hr hx h
              refine ⟨z, ?_, h2⟩
              have e : (args.map ρ).toList = u :: vs := by simpa using hm
              simp only [execOp, resolve, invoke, Go.builtin, run_bind, run_pure, Builtin.max_, e, h1]
        · cases h
      · simp only [opP] at h
        split at h
        · rename_i x r' he
          rw [he] at ht
          cases hm : args.toList.map ρ with
          | nil => rw [hm] at ht; cases ht
          | cons u vs =>
            rw [hm] at ht
            cases ht with
            | cons hx hr =>
              obtain ⟨z, h1, h2⟩ := fold_run (P := P) (w := w) aMin2 Builtin.min2 min2_run r' x r u vs hr hx h
              refine ⟨z, ?_, h2⟩
              have e : (args.map ρ).toList = u :: vs := by simpa using hm
              simp only [execOp, resolve, invoke, Go.builtin, run_bind, run_pure, Builtin.min_, e, h1]
        · cases h
  | _ => cases h
end
end Go.Abs
