/-
  Operations that read memory and turn nothing.
-/
import Derived.Test.YtgecidicpdobfaaDoorAbsPure7
namespace Go.Abs
open Go

abbrev Mem := Nat → Option Blk

def aLoad1 (x : T) (g : Mem) : Option T :=
  match x with
  | .v (.s (.ptr i o)) => match g i with
    | some (.cells _ vs) => match vs[o]? with
      | some y => some (.v (.s y))
      | none => none
    | _ => none
  | _ => none

def aLoadN (n : Nat) (x : T) (g : Mem) : Option T :=
  match x with
  | .v (.s (.ptr i o)) => match g i with
    | some (.cells _ vs) => if o + n ≤ vs.length then some (.v (.agg ((vs.drop o).take n))) else none
    | _ => none
  | _ => none

def toBytes : List S → Option (List UInt8)
  | [] => some []
  | .int .u8 n :: r => match toBytes r with
    | some l => some (UInt8.ofNat n.toNat :: l)
    | none => none
  | _ :: _ => none

def aBytesStr (x : T) (g : Mem) : Option T :=
  match x with
  | .v (.s .nils) => some (Z (.str []))
  | .v (.s (.emp _ _)) => some (Z (.str []))
  | .v (.s (.sl i o n _)) => if n = 0 then some (Z (.str [])) else match g i with
    | some (.cells _ vs) => if o + n ≤ vs.length then match toBytes ((vs.drop o).take n) with
        | some l => some (Z (.str l))
        | none => none
      else none
    | _ => none
  | _ => none

/-- Two keys of one make: the same? -/
def keyEq : S → S → Option Bool
  | .int k a, .int k' b => if k = k' then some (decide (a = b)) else none
  | .str a, .str b => some (decide (a = b))
  | .bool a, .bool b => some (decide (a = b))
  | _, _ => none

def aFind (k : S) : List (S × V) → Nat → Option (Option (Nat × V))
  | [], _ => some none
  | (q, v) :: r, n => match keyEq k q with
    | some true => some (some (n, v))
    | some false => aFind k r (n + 1)
    | none => none

def aLookup (ok : Bool) (zero : V) (m k : T) (g : Mem) : Option T :=
  match m, k with
  | .v (.s .nilm), .v (.s _) => some (if ok then .tup [zero, .s (.bool false)] else .v zero)
  | .v (.s (.map i)), .v (.s k) => match g i with
    | some (.map es) => match aFind k es 0 with
      | some (some (_, v)) => some (if ok then .tup [v, .s (.bool true)] else .v v)
      | some none => some (if ok then .tup [zero, .s (.bool false)] else .v zero)
      | none => none
    | _ => none
  | _, _ => none

def aLenMap (m : T) (g : Mem) : Option T :=
  match m with
  | .v (.s .nilm) => some (I .i64 0)
  | .v (.s (.map i)) => match g i with
    | some (.map es) => some (I .i64 es.length)
    | _ => none
  | _ => none

/-- A key's type, of those that are served. -/
inductive KK where
  | i | s | b
  deriving DecidableEq
def kkOf (P : Program) (t : TypeId) : Option KK :=
  match P.underlying t with
  | some (.int _) => some .i
  | some .string => some .s
  | some .bool => some .b
  | _ => none
def isKey : KK → T → Bool
  | .i, .v (.s (.int _ _)) => true
  | .s, .v (.s (.str _)) => true
  | .b, .v (.s (.bool _)) => true
  | _, _ => false

def opL (P : Program) (op : Op) (ev : Operand → T) (g : Mem) : Option T :=
  match op with
  | .load t a => match aggOf P t with
    | some true => match szOf P t with
      | some n => aLoadN n (ev a) g
      | none => none
    | some false => aLoad1 (ev a) g
    | none => none
  | .convert s d x => match P.underlying s, P.underlying d with
    | some (.slice e), some .string => match P.underlying e with
      | some (.int .u8) => aBytesStr (ev x) g
      | _ => none
    | _, _ => none
  | .lookup t x k ok => match P.underlying t with
    | some (.map kt et) => match kkOf P kt, zeroOf P et with
      | some kk, some z => if isKey kk (ev k) then aLookup ok z (ev x) (ev k) g else none
      | _, _ => none
    | _ => none
  | .call { callee := .builtin .len, args, argTypes } => match args.toList, argTypes.toList with
    | [x], [t] => match P.underlying t with
      | some (.map _ _) => aLenMap (ev x) g
      | _ => none
    | _, _ => none
  | _ => none

section
variable {P : Program} {ι : Inj} {w : World} {g : Mem}

theorem opL_mono {op : Op} {ev : Operand → T} {g' : Mem} {r : T} (hg : ∀ i b, g i = some b → g' i = some b) (h : opL P op ev g = some r) : opL P op ev g' = some r := by
  have h1 : ∀ x r, aLoad1 x g = some r → aLoad1 x g' = some r := by
    intro x r h
    unfold aLoad1 at h ⊢
    split at h
    · split at h
      · rename_i hb; simp only [hg _ _ hb]; exact h
      · cases h
    · cases h
  have h2 : ∀ n x r, aLoadN n x g = some r → aLoadN n x g' = some r := by
    intro n x r h
    unfold aLoadN at h ⊢
    split at h
    · split at h
      · rename_i hb; simp only [hg _ _ hb]; exact h
      · cases h
    · cases h
  have h3 : ∀ x r, aBytesStr x g = some r → aBytesStr x g' = some r := by
    intro x r h
    unfold aBytesStr at h ⊢
    split at h
    · exact h
    · exact h
    · split at h
      · rename_i hz; rw [if_pos hz]; exact h
      · rename_i hz
        rw [if_neg hz]
        split at h
        · rename_i hb; simp only [hg _ _ hb]; exact h
        · cases h
    · cases h
  have h4 : ∀ ok z m k r, aLookup ok z m k g = some r → aLookup ok z m k g' = some r := by
    intro ok z m k r h
    unfold aLookup at h ⊢
    split at h
    · exact h
    · split at h
      · rename_i hb; simp only [hg _ _ hb]; exact h
      · cases h
    · cases h
  have h5 : ∀ m r, aLenMap m g = some r → aLenMap m g' = some r := by
    intro m r h
    unfold aLenMap at h ⊢
    split at h
    · exact h
    · split at h
      · rename_i hb; simp only [hg _ _ hb]; exact h
      · cases h
    · cases h
  unfold opL at h ⊢
  split at h
  · split at h
    · split at h
      · exact h2 _ _ _ h
      · cases h
    · exact h1 _ _ h
    · cases h
  · split at h
    · split at h
      · exact h3 _ _ h
      · cases h
    · cases h
  · split at h
    · split at h
      · split at h
        · rename_i hc
          simp only [hc, if_true]
          exact h4 _ _ _ _ _ h
        · cases h
      · cases h
    · cases h
  · split at h
    · split at h
      · exact h5 _ _ h
      · cases h
    · cases h
  · cases h

theorem opL_congr {op : Op} {ev ev' : Operand → T} (h : ∀ x ∈ op.operands, ev x = ev' x) : opL P op ev g = opL P op ev' g := by
  unfold opL
  split
  · rw [h _ (by simp [Op.operands])]
  · rw [h _ (by simp [Op.operands])]
  · rename_i x k _
    rw [h x (by simp [Op.operands]), h k (by simp [Op.operands])]
  · rename_i args argTypes
    split
    · rename_i x t hx ht
      rw [h x (by
        simp only [Op.operands, Call.operands, Array.mem_append]
        exact .inr (by rw [← Array.mem_toList_iff, hx]; simp))]
    · rfl
  · rfl

theorem toBytes_run : ∀ {xs : List S} {cs : List Value} {l : List UInt8}, All2 (SRel ι) xs cs → toBytes xs = some l → ∃ ns : List Int, cs = ns.map (Value.int .u8) ∧ l = ns.map fun n => UInt8.ofNat n.toNat := by
  intro xs
  induction xs with
  | nil => intro cs l h hl; cases h; cases hl; exact ⟨[], rfl, rfl⟩
  | cons x xs ih =>
    intro cs l h hl
    cases h with
    | cons a h =>
      unfold toBytes at hl
      split at hl
      · rename_i he; cases he
      · rename_i n r he
        cases he
        split at hl
        · rename_i l' hl'
          cases hl
          obtain ⟨ns, rfl, rfl⟩ := ih h hl'
          simp only [SRel] at a
          subst a
          exact ⟨n :: ns, rfl, rfl⟩
        · cases hl
      · cases hl

theorem foldl_push (ns : List Int) : ∀ (s : ByteArray), (ns.foldl (fun r n => r.push (UInt8.ofNat n.toNat)) s).data.toList = s.data.toList ++ ns.map fun n => UInt8.ofNat n.toNat := by
  induction ns with
  | nil => intro s; simp
  | cons n ns ih =>
    intro s
    rw [List.foldl_cons, ih]
    simp [ByteArray.data_push]

def keyFits (d : TypeDesc) (a : S) : Prop := match d, a with | .int _, .int _ _ => True | .string, .str _ => True | .bool, .bool _ => True | _, _ => False

theorem keyEq_sym {a b : S} {u v : Value} {r : Bool} (ha : SRel ι a u) (hb : SRel ι b v) (h : keyEq a b = some r) (d : TypeDesc)
    (hk : keyFits d a) :
    Instr.sameNow d u v = some r := by
  cases a <;> cases b <;> simp only [keyEq] at h <;> first | (cases h; done) | skip
  · simp only [SRel] at ha hb; subst ha hb
    rename_i a b
    cases d <;> simp [keyFits] at hk
    cases h
    cases a <;> cases b <;> rfl
  · simp only [SRel] at ha hb; subst ha hb
    cases d <;> simp [keyFits] at hk
    rename_i k a k' b _
    by_cases e : k = k'
    · subst e
      rw [if_pos rfl] at h; cases h
      simp [Instr.sameNow, beq_decide]
    · rw [if_neg e] at h; cases h
  · obtain ⟨s, rfl, rfl⟩ := ha
    obtain ⟨s', rfl, rfl⟩ := hb
    cases d <;> simp [keyFits] at hk
    cases h
    simp only [Instr.sameNow]
    rw [beq_toListBytes, ByteArray.toList_eq, ByteArray.toList_eq, beq_decide_list]

theorem aFind_run {k : S} {u : Value} (hk : SRel ι k u) (d : TypeDesc) (hkd : keyFits d k) :
    ∀ (es : List (S × V)) (mes : List MapEntry) (n : Nat) (r : Option (Nat × V)), All2 (EntRel ι) es mes → aFind k es n = some r →
      match r with
      | none => Instr.findNow d u mes n = some none
      | some (j, v) => ∃ v', Instr.findNow d u mes n = some (some (j, v')) ∧ VRel ι v v' ∧ n ≤ j ∧ ∃ q e, es[j - n]? = some (q, v) ∧ mes[j - n]? = some e ∧ keyEq k q = some true ∧ e.val = v' := by
  intro es
  induction es with
  | nil => intro mes n r h hf; cases h; cases hf; rfl
  | cons p es ih =>
    intro mes n r h hf
    obtain ⟨q, v⟩ := p
    cases h with
    | @cons _ e _ mes hr h =>
      simp only [aFind] at hf
      split at hf
      · rename_i hq
        cases hf
        have := keyEq_sym hk hr.1 hq d hkd
        exact ⟨e.val, by simp [Instr.findNow, this], hr.2, Nat.le_refl _, q, e, by simp, by simp, hq, rfl⟩
      · rename_i hq
        have := keyEq_sym hk hr.1 hq d hkd
        have hrec := ih mes (n + 1) r h hf
        cases r with
        | none => simp [Instr.findNow, this, hrec]
        | some jv =>
          obtain ⟨j, v⟩ := jv
          obtain ⟨v', h1, h2, h3, q', e', h4, h5, h6, h7⟩ := hrec
          have ej : j - n = (j - (n + 1)) + 1 := by omega
          exact ⟨v', by simp [Instr.findNow, this, h1], h2, by omega, q', e', by rw [ej]; simpa using h4, by rw [ej]; simpa using h5, h6, h7⟩
      · cases hf

theorem kk_fits {kt : TypeId} {kk : KK} {k : S} {u : Value} (h : kkOf P kt = some kk) (hk : isKey kk (.v (.s k)) = true) (hu : SRel ι k u) (emp : Bool) (n : Nat) :
    ∃ d, P.underlying kt = some d ∧ keyFits d k ∧ (Instr.checkKey emp (n + 1) kt u).run P w = .ok () w := by
  unfold kkOf at h
  split at h
  · rename_i q hq; cases h
    cases k <;> simp [isKey] at hk
    simp only [SRel] at hu; subst hu
    exact ⟨_, hq, trivial, by simp [Instr.checkKey, run_bind, run_und hq, run_pure]⟩
  · rename_i hq; cases h
    cases k <;> simp [isKey] at hk
    obtain ⟨s, rfl, _⟩ := hu
    exact ⟨_, hq, trivial, by simp [Instr.checkKey, run_bind, run_und hq, run_pure]⟩
  · rename_i hq; cases h
    cases k <;> simp [isKey] at hk
    simp only [SRel] at hu; subst hu
    exact ⟨_, hq, trivial, by simp [Instr.checkKey, run_bind, run_und hq, run_pure]⟩
  · cases h

theorem findKey_run {kt : TypeId} {kk : KK} {k : S} {u : Value} (h : kkOf P kt = some kk) (hk : isKey kk (.v (.s k)) = true) (hu : SRel ι k u) {es : List (S × V)} {mes : List MapEntry} {r : Option (Nat × V)}
    (he : All2 (EntRel ι) es mes) (hf : aFind k es 0 = some r) :
    match r with
    | none => (Instr.findKey kt u mes).run P w = .ok none w
    | some (j, v) => ∃ v', (Instr.findKey kt u mes).run P w = .ok (some (j, v')) w ∧ VRel ι v v' ∧ ∃ q e, es[j]? = some (q, v) ∧ mes[j]? = some e ∧ keyEq k q = some true ∧ e.val = v' := by
  obtain ⟨d, hd, hfit, _⟩ := kk_fits (w := w) h hk hu false 0
  have := aFind_run hu d hfit es mes 0 r he hf
  cases r with
  | none => simp [Instr.findKey, run_bind, run_und hd, this, run_pure]
  | some jv =>
    obtain ⟨j, v⟩ := jv
    obtain ⟨v', h1, h2, _, q, e, h3⟩ := this
    exact ⟨v', by simp [Instr.findKey, run_bind, run_und hd, h1, run_pure], h2, q, e, by simpa using h3⟩

theorem load1_run {t : TypeId} {x : T} {u : Value} {r : T} (ha : aggOf P t = some false) (hR : Rel ι g w) (hx : TRel ι x u) (h : aLoad1 x g = some r) :
    ∃ v, (Instr.loadAt t u).run P w = .ok v w ∧ TRel ι r v := by
  unfold aLoad1 at h
  split at h
  · rename_i i o
    obtain ⟨L, hL, rfl⟩ := hx
    split at h
    · rename_i own vs hb
      split at h
      · rename_i y hy
        cases h
        obtain ⟨v, hv, rv⟩ := run_load_of (P := P) hR hL hb hy
        exact ⟨v, by simp only [Instr.loadAt, Instr.sureAddr, run_bind, run_pure, loadVar, run_agg ha, Bool.false_eq_true, if_false, hv], rv⟩
      · cases h
    · cases h
  · cases h

theorem loadN_run {t : TypeId} {n : Nat} {x : T} {u : Value} {r : T} (ha : aggOf P t = some true) (hn : szOf P t = some n) (hR : Rel ι g w) (hx : TRel ι x u) (h : aLoadN n x g = some r) :
    ∃ v, (Instr.loadAt t u).run P w = .ok v w ∧ TRel ι r v := by
  unfold aLoadN at h
  split at h
  · rename_i i o
    obtain ⟨L, hL, rfl⟩ := hx
    split at h
    · rename_i own vs hb
      split at h
      · rename_i hle
        cases h
        obtain ⟨cs, hc, rc⟩ := run_loadCells (P := P) hR hL hb (o := o) (n := n) rfl (by simp; omega)
        exact ⟨.agg cs.toArray, by simp only [Instr.loadAt, Instr.sureAddr, run_bind, run_pure, loadVar, run_agg ha, if_true, run_sz hn, hc], cs, rfl, rc⟩
      · cases h
    · cases h
  · cases h

theorem sl_shape {i o n : Nat} {c : Cap} {u : Value} (h : SRel ι (.sl i o n c) u) : ∃ L k, ι i = some L ∧ u = .slice (some ⟨L.b, L.base + o, none⟩) n k ∧ n ≤ k := by
  cases c with
  | known c => obtain ⟨L, hL, e, hle⟩ := h; exact ⟨L, c, hL, e, hle⟩
  | grown g => obtain ⟨L, c, hL, e, hle, _⟩ := h; exact ⟨L, c, hL, e, hle⟩

theorem bytesStr_run {x : T} {u : Value} {r : T} (hR : Rel ι g w) (hx : TRel ι x u) (h : aBytesStr x g = some r) :
    ∃ v, (Conv.bytesToString u).run P w = .ok v w ∧ TRel ι r v := by
  unfold aBytesStr at h
  split at h
  · simp only [TRel, VRel, SRel] at hx; subst hx; cases h
    exact ⟨.string .empty, rfl, ⟨.empty, rfl, rfl⟩⟩
  · obtain ⟨L, o, c, hL, rfl, _⟩ := hx; cases h
    refine ⟨.string .empty, ?_, ⟨.empty, rfl, rfl⟩⟩
    have := run_bytesToString (P := P) w ⟨L.b, L.base + o, none⟩ 0 c [] (by simp [loadCells, loadCellsFrom, run_pure])
    simpa using this
  · rename_i i o n c
    obtain ⟨L, k, hL, rfl, _⟩ := sl_shape hx
    split at h
    · rename_i hz
      subst hz
      cases h
      refine ⟨.string .empty, ?_, ⟨.empty, rfl, rfl⟩⟩
      have := run_bytesToString (P := P) w ⟨L.b, L.base + o, none⟩ 0 k [] (by simp [loadCells, loadCellsFrom, run_pure])
      simpa using this
    split at h
    · rename_i own vs hb
      split at h
      · rename_i hle
        split at h
        · rename_i l hl
          cases h
          obtain ⟨cs, hc, rc⟩ := run_loadCells (P := P) hR hL hb (o := o) (n := n) rfl (by simp; omega)
          obtain ⟨ns, rfl, rfl⟩ := toBytes_run rc hl
          refine ⟨_, run_bytesToString (P := P) w ⟨L.b, L.base + o, none⟩ n k ns hc, ⟨_, rfl, ?_⟩⟩
          rw [foldl_push]; rfl
        · cases h
      · cases h
    · cases h
  · cases h

theorem opL_run {o : Oper} {ev : Operand → T} {ρ : Operand → Value} {r : T} (hR : Rel ι g w) (hev : ∀ x ∈ o.op.operands, TRel ι (ev x) (ρ x)) (h : opL P o.op ev g = some r) :
    ∃ v, (execOp ρ o).run P w = .ok (.value v) w ∧ TRel ι r v := by
  obtain ⟨dst, op, ty, pos, after, guard⟩ := o
  simp only at hev h
  have fin : ∀ (s : Sem Value), execOp ρ ⟨dst, op, ty, pos, after, guard⟩ = (do pure (Next.value (← s))) → (∃ v, s.run P w = .ok v w ∧ TRel ι r v) →
      ∃ v, (execOp ρ ⟨dst, op, ty, pos, after, guard⟩).run P w = .ok (.value v) w ∧ TRel ι r v := by
    intro s he ⟨v, h1, h2⟩
    exact ⟨v, by rw [he]; exact run_value h1, h2⟩
  cases op with
  | load t a =>
    simp only [opL] at h
    split at h
    · rename_i ha
      split at h
      · rename_i n hn; exact fin _ rfl (loadN_run ha hn hR (hev a (by simp [Op.operands])) h)
      · cases h
    · rename_i ha; exact fin _ rfl (load1_run ha hR (hev a (by simp [Op.operands])) h)
    · cases h
  | convert s d x =>
    have hx := hev x (by simp [Op.operands])
    simp only [opL] at h
    split at h
    · rename_i e hs hd
      split at h
      · rename_i he
        obtain ⟨v, h1, h2⟩ := bytesStr_run (P := P) hR hx h
        refine fin _ rfl ⟨v, ?_, h2⟩
        rw [← h1]
        have : ∃ a n c, ρ x = .slice a n c := by
          unfold aBytesStr at h
          split at h
          · rename_i hh; rw [hh] at hx; exact ⟨none, 0, 0, hx⟩
          · rename_i hh; rw [hh] at hx; obtain ⟨L, o, c, hL, e, _⟩ := hx; exact ⟨_, _, _, e⟩
          · rename_i hh; rw [hh] at hx; obtain ⟨L, k, hL, e, _⟩ := sl_shape hx; exact ⟨_, _, _, e⟩
          · cases h
        obtain ⟨a, n, c, e'⟩ := this
        rw [e']
        exact run_convert_bytes_string w s d e a n c hs he hd
      · cases h
    · cases h
  | lookup t x k ok =>
    have hx := hev x (by simp [Op.operands])
    have hk := hev k (by simp [Op.operands])
    simp only [opL] at h
    split at h
    · rename_i kt et hu
      split at h
      · rename_i kk z hkk hz
        obtain ⟨zv, hzr, hzrel⟩ := run_zero (P := P) (w := w) (ι := ι) hz
        split at h
        · rename_i hik
          refine fin _ rfl ?_
          unfold aLookup at h
          split at h
          · rename_i kv hm hkv
            rw [hm] at hx; rw [hkv] at hk hik
            simp only [TRel, VRel, SRel] at hx
            obtain ⟨d, hd, _, hchk⟩ := kk_fits (P := P) (w := w) hkk hik hk true 9999
            have hchk' : (Instr.checkKey true 10000 kt (ρ k)).run P w = .ok () w := hchk
            have hfk : (Instr.findKey kt (ρ k) []).run P w = .ok none w := by simp [Instr.findKey, run_bind, run_und hd, Instr.findNow, run_pure]
            have hrun : (Instr.lookup t (ρ x) (ρ k) ok).run P w = .ok (if ok then .tuple #[zv, .bool false] else zv) w := by
              simp only [Instr.lookup, run_bind, run_und hu, hx, run_pure, List.isEmpty_toArray, List.isEmpty_nil, hchk', hfk, hzr]
            refine ⟨_, hrun, ?_⟩
            cases h
            cases ok
            · exact hzrel
            · exact ⟨[zv, .bool false], rfl, .cons hzrel (.cons rfl .nil)⟩
          · rename_i i kv hm hkv
            rw [hm] at hx; rw [hkv] at hk hik
            obtain ⟨L, hL, hxe⟩ := hx
            split at h
            · rename_i es hb
              obtain ⟨mes, clk, hh, hall, _⟩ := hR.blk i L _ hL hb
              obtain ⟨d, hd, _, hchk⟩ := kk_fits (P := P) (w := w) hkk hik hk mes.isEmpty 9999
              have hchk' : (Instr.checkKey mes.isEmpty 10000 kt (ρ k)).run P w = .ok () w := hchk
              have hget : (getObj L.b).run P w = .ok (.map mes clk) w := by simp [getObj, Sem.run, hh]
              split at h
              · rename_i j v hf
                obtain ⟨v', h1, h2, _⟩ := findKey_run (P := P) (w := w) hkk hik hk hall hf
                have hrun : (Instr.lookup t (ρ x) (ρ k) ok).run P w = .ok (if ok then .tuple #[v', .bool true] else v') w := by
                  simp only [Instr.lookup, run_bind, run_und hu, hxe, hget, run_pure, hchk', h1]
                refine ⟨_, hrun, ?_⟩
                cases h
                cases ok
                · exact h2
                · exact ⟨[v', .bool true], rfl, .cons h2 (.cons rfl .nil)⟩
              · rename_i hf
                have h1 := findKey_run (P := P) (w := w) hkk hik hk hall hf
                simp only at h1
                have hrun : (Instr.lookup t (ρ x) (ρ k) ok).run P w = .ok (if ok then .tuple #[zv, .bool false] else zv) w := by
                  simp only [Instr.lookup, run_bind, run_und hu, hxe, hget, run_pure, hchk', h1, hzr]
                refine ⟨_, hrun, ?_⟩
                cases h
                cases ok
                · exact hzrel
                · exact ⟨[zv, .bool false], rfl, .cons hzrel (.cons rfl .nil)⟩
              · cases h
            · cases h
          · cases h
        · cases h
      · cases h
    · cases h
  | call c =>
    obtain ⟨callee, args, argTypes⟩ := c
    cases callee with
    | value f => simp [opL] at h
    | invoke r n => simp [opL] at h
    | builtin b =>
      cases b <;> first | (simp [opL] at h; done) | skip
      have one : ∀ {x : Operand}, args.toList = [x] → args = #[x] := by
        intro x e; rw [← Array.toArray_toList (xs := args), e]
      have onet : ∀ {x : TypeId}, argTypes.toList = [x] → argTypes = #[x] := by
        intro x e; rw [← Array.toArray_toList (xs := argTypes), e]
      simp only [opL] at h
      split at h
      · rename_i x t hx' ht'
        have ea := one hx'; have et := onet ht'; subst ea et
        have hx := hev x (by simp [Op.operands, Call.operands])
        split at h
        · rename_i kt et hu
          unfold aLenMap at h
          split at h
          · rename_i he
            cases h
            rw [he] at hx
            simp only [TRel, VRel, SRel] at hx
            refine ⟨.int .i64 0, ?_, rfl⟩
            simp [execOp, resolve, invoke, Go.builtin, run_bind, run_pure, Builtin.len_, run_und hu, hx, goInt]
          · rename_i i he
            rw [he] at hx
            obtain ⟨L, hL, hxe⟩ := hx
            split at h
            · rename_i es hb
              cases h
              obtain ⟨mes, clk, hh, hall, _⟩ := hR.blk i L _ hL hb
              have hget : (getObj L.b).run P w = .ok (.map mes clk) w := by simp [getObj, Sem.run, hh]
              have hlen := forall2_length hall
              simp only [Array.length_toList] at hlen
              refine ⟨.int .i64 mes.size, ?_, by rw [← hlen]; rfl⟩
              simp [execOp, resolve, invoke, Go.builtin, run_bind, run_pure, Builtin.len_, run_und hu, hxe, hget, goInt]
            · cases h
          · cases h
        · cases h
      · cases h
  | _ => simp [opL] at h
end
end Go.Abs
