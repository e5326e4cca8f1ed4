/- The layer, part 5: operators, and the whole table of operations. -/
import Derived.Test.YtggkeldedennfaaLd
import Derived.Laws.StructEq
set_option linter.unusedVariables false
set_option linter.unusedSimpArgs false
namespace Go.Lay
open Go Go.RowKit

def aint (op : BinOp) (k : IntKind) (a b : Int) : Option Value :=
  match op with
  | .add => some (.int k (k.wrap (a + b)))
  | .sub => some (.int k (k.wrap (a - b)))
  | .mul => some (.int k (k.wrap (a * b)))
  | .quo => if b = 0 then none else some (.int k (k.wrap (a.tdiv b)))
  | .rem => if b = 0 then none else some (.int k (a.tmod b))
  | .and => some (.int k (k.wrap (BitVec.ofInt k.bits a &&& BitVec.ofInt k.bits b).toNat))
  | .or => some (.int k (k.wrap (BitVec.ofInt k.bits a ||| BitVec.ofInt k.bits b).toNat))
  | .xor => some (.int k (k.wrap (BitVec.ofInt k.bits a ^^^ BitVec.ofInt k.bits b).toNat))
  | .andNot => some (.int k (k.wrap (BitVec.ofInt k.bits a &&& ~~~ BitVec.ofInt k.bits b).toNat))
  | .eql => some (.bool (a == b))
  | .neq => some (.bool (a != b))
  | .lss => some (.bool (decide (a < b)))
  | .leq => some (.bool (decide (a ≤ b)))
  | .gtr => some (.bool (decide (a > b)))
  | .geq => some (.bool (decide (a ≥ b)))
  | _ => none
def ashift (op : BinOp) (k : IntKind) (a b : Int) : Option Value :=
  if b < 0 then none else
  match op with
  | .shl => some (.int k (k.wrap (a * 2 ^ (min b.toNat k.bits))))
  | .shr => some (.int k (a.fdiv (2 ^ (min b.toNat k.bits))))
  | _ => none
/-- is a value nil? -/
def anil : TypeDesc → Value → Option Bool
  | .slice _, .slice none _ _ => some true
  | .slice _, .slice (some _) _ _ => some false
  | .pointer _, .pointer none => some true
  | .pointer _, .pointer (some _) => some false
  | .interface _, .nilIface => some true
  | .interface _, .iface _ _ => some false
  | .func _ _ _, .nilFunc => some true
  | .func _ _ _, .func _ _ _ => some false
  | _, _ => none
/-- the literal nil of a type -/
def nilOf : TypeDesc → Value → Bool
  | .slice _, .slice none 0 0 => true
  | .pointer _, .pointer none => true
  | .interface _, .nilIface => true
  | .func _ _ _, .nilFunc => true
  | _, _ => false
def aeq (P : Program) (t : TypeId) (cst : Bool) (x y : Value) : Option Bool :=
  match P.underlying t with
  | some .bool => match x, y with
    | .bool a, .bool b => some (a == b)
    | _, _ => none
  | some d => if cst = true then (if nilOf d y = true then anil d x else if nilOf d x = true then anil d y else none) else none
  | none => none
/-- Structs of flat fields, field by field. -/
def fEq (P : Program) (xs ys : Array Value) : List Field → Option Bool
  | [] => some true
  | f :: fs =>
    if f.name = "_" then none else
    match xs[f.offset]?, ys[f.offset]?, P.underlying f.type with
    | some (.int k a), some (.int k' b), some (.int _) => if k = k' then (fEq P xs ys fs).map fun r => (a == b) && r else none
    | some (.bool a), some (.bool b), some .bool => (fEq P xs ys fs).map fun r => (a == b) && r
    | some (.string a), some (.string b), some .string => (fEq P xs ys fs).map fun r => (a.toList == b.toList) && r
    | _, _, _ => none
def plainEq (P : Program) (t : TypeId) : Bool := !P.stoodInHeld t && !P.eqGuardType P.depth t
def sEq (P : Program) (t : TypeId) (xs ys : Array Value) : Option Bool :=
  match P.underlying t with
  | some (.struct fs) => if plainEq P t = true then fEq P xs ys fs.toList else none
  | _ => none
theorem agg_inv {m : AM} {xs : Array Value} {x' : Value} (h : VR m (.agg xs) x') : ∃ xs', x' = .agg xs' ∧ ∀ (i : Nat) (v : Value), flat v = true → xs[i]? = some v → xs'[i]? = some v := by
  cases h with
  | fl h => exact ⟨xs, rfl, fun _ _ _ h => h⟩
  | agg hs h =>
    rename_i cs'
    refine ⟨cs', rfl, fun i v hv hi => ?_⟩
    have hlt : i < xs.size := (Array.getElem?_eq_some_iff.1 hi).1
    have := h i
    rw [hi] at this
    have e : cs'[i]? = some cs'[i] := Array.getElem?_eq_getElem (by omega)
    rw [e] at this ⊢
    exact congrArg some (VR.eq_flat this hv)
theorem fEq_run {P : Program} {xs ys xs' ys' : Array Value} (hx : ∀ (i : Nat) (v : Value), flat v = true → xs[i]? = some v → xs'[i]? = some v) (hy : ∀ (i : Nat) (v : Value), flat v = true → ys[i]? = some v → ys'[i]? = some v) (d : Nat) (w : World) :
    ∀ (fs : List Field) (b : Bool), fEq P xs ys fs = some b → (Op.eqFields (d + 1) xs' ys' fs).run P w = .ok b w
  | [], b, h => by simp only [fEq, Option.some.injEq] at h; subst h; simp [Op.eqFields]
  | f :: fs, b, h => by
    unfold fEq at h
    split at h
    · cases h
    · rename_i hn
      have hn' : f.name ≠ "_" := hn
      have fin : ∀ {u v : Value} {r : Bool}, (isAgg f.type).run P w = .ok false w → flat u = true → flat v = true → xs[f.offset]? = some u → ys[f.offset]? = some v → (Op.equalIn (d + 1) f.type u v).run P w = .ok r w →
          (fEq P xs ys fs).map (fun q => r && q) = some b → (Op.eqFields (d + 1) xs' ys' (f :: fs)).run P w = .ok b w := fun {u v r} ha hu hv h1 h2 he hm => by
        have p1 : (part f.type xs' f.offset).run P w = .ok u w := by simp [part, ha, hx _ _ hu h1]
        have p2 : (part f.type ys' f.offset).run P w = .ok v w := by simp [part, ha, hy _ _ hv h2]
        rw [Op.eqFields]
        simp only [if_pos hn', Sem.run_bind, p1, p2, he, Result.andThen_ok]
        cases hq : fEq P xs ys fs with
        | none => simp [hq] at hm
        | some q =>
          simp [hq] at hm
          subst hm
          cases r
          · simp
          · simpa using fEq_run hx hy d w fs q hq
      split at h
      · rename_i k a k' c j h1 h2 hu
        split at h
        · rename_i hk
          subst hk
          exact fin (run_aggA (by simp [aggA, hu]) w) rfl rfl h1 h2 (by rw [Op.equalIn]; simp [run_underlying hu]) h
        · cases h
      · rename_i a c h1 h2 hu
        exact fin (run_aggA (by simp [aggA, hu]) w) rfl rfl h1 h2 (by rw [Op.equalIn]; simp [run_underlying hu]) h
      · rename_i a c h1 h2 hu
        exact fin (run_aggA (by simp [aggA, hu]) w) rfl rfl h1 h2 (by rw [Op.equalIn]; simp [run_underlying hu, beq_toListBytes]) h
      · cases h
theorem sEq_run {P : Program} {m : AM} {t : TypeId} {xs ys : Array Value} {x' y' : Value} {b : Bool} (hx : VR m (.agg xs) x') (hy : VR m (.agg ys) y') (hl : sEq P t xs ys = some b) (op : BinOp) (p q : Operand) (w : World) :
    (eqGuard op t p q x' y').run P w = .ok () w ∧ (op = .eql → (binOp op t x' y').run P w = .ok (.bool b) w) ∧ (op = .neq → (binOp op t x' y').run P w = .ok (.bool (!b)) w) := by
  obtain ⟨xs', rfl, h1⟩ := agg_inv hx
  obtain ⟨ys', rfl, h2⟩ := agg_inv hy
  unfold sEq at hl
  split at hl
  · rename_i fs hu
    split at hl
    · rename_i hp
      simp only [plainEq, Bool.and_eq_true, Bool.not_eq_true'] at hp
      have hf : P.fieldsOf t = fs := by simp [Program.fieldsOf, hu]
      have he : (Op.equalIn (9999 + 1) t (.agg xs') (.agg ys')).run P w = .ok b w := by
        rw [run_equalIn_struct (P := P) w 9999 t xs' ys' (by rw [hf]; exact hu) hp.1, hf]
        exact fEq_run h1 h2 9998 w _ _ hl
      have he' : (Op.equal t (.agg xs') (.agg ys')).run P w = .ok b w := he
      refine ⟨run_eqGuard_agg (P := P) w op t p q xs' ys' hp.2, fun ho => ?_, fun ho => ?_⟩
      · subst ho
        have e : binOp .eql t (.agg xs') (.agg ys') = (do pure (.bool (← Op.equal t (.agg xs') (.agg ys')))) := rfl
        rw [e, Sem.run_bind, he']; rfl
      · subst ho
        have e : binOp .neq t (.agg xs') (.agg ys') = (do pure (.bool (!(← Op.equal t (.agg xs') (.agg ys'))))) := rfl
        rw [e, Sem.run_bind, he']; rfl
    · cases hl
  · cases hl
def abin (P : Program) (op : BinOp) (t : TypeId) (cst : Bool) (x y : Value) : Option Value :=
  match x, y with
  | .int k a, .int k' b => match op with
    | .shl => ashift .shl k a b
    | .shr => ashift .shr k a b
    | op => if k = k' then aint op k a b else none
  | .string a, .string b => match op with
    | .eql => some (.bool (a.toList == b.toList))
    | .neq => some (.bool (!(a.toList == b.toList)))
    | .add => if a.size + b.size ≤ 9223372036854775807 then some (.string (a ++ b)) else none
    | _ => none
  | .agg xs, .agg ys => match op with
    | .eql => (sEq P t xs ys).map .bool
    | .neq => (sEq P t xs ys).map fun b => .bool (!b)
    | _ => none
  | x, y => match op with
    | .eql => (aeq P t cst x y).map .bool
    | .neq => (aeq P t cst x y).map fun b => .bool (!b)
    | _ => none

theorem anil_rel {m : AM} {d : TypeDesc} {x x' : Value} {b : Bool} (h : VR m x x') (hl : anil d x = some b) : anil d x' = some b := by
  cases h with
  | jk v => cases d <;> simp [anil, junk] at hl
  | fl h => exact hl
  | ptr h => cases d <;> simp_all [anil]
  | sl h => cases d <;> simp_all [anil]
  | iface h => cases d <;> simp_all [anil]
  | agg h => cases d <;> simp [anil] at hl
  | tuple h => cases d <;> simp [anil] at hl
  | func h => cases d <;> simp_all [anil]

theorem equal_nil {P : Program} {t : TypeId} {d : TypeDesc} (hu : P.underlying t = some d) {x y : Value} {b : Bool} (hn : nilOf d y = true) (hl : anil d x = some b) (w : World) :
    (Op.equalIn (9999 + 1) t x y).run P w = .ok b w ∧ (Op.equalIn (9999 + 1) t y x).run P w = .ok b w := by
  cases d <;> simp only [nilOf, Bool.false_eq_true] at hn
  · -- pointer
    cases y <;> first | (simp at hn; done) | skip
    rename_i a
    cases a <;> first | (simp at hn; done) | skip
    cases x <;> simp only [anil, reduceCtorEq] at hl
    rename_i a
    cases a <;> simp only [anil, Option.some.injEq] at hl <;> subst hl <;> (constructor <;> rw [Op.equalIn] <;> simp [run_underlying hu])
  · -- slice
    cases y <;> first | (simp at hn; done) | skip
    rename_i a l c
    cases a <;> first | (simp at hn; done) | skip
    cases x <;> simp only [anil, reduceCtorEq] at hl
    rename_i a l c
    cases a <;> simp only [anil, Option.some.injEq] at hl <;> subst hl <;> (constructor <;> rw [Op.equalIn] <;> simp [run_underlying hu])
  · -- func
    cases y <;> first | (simp at hn; done) | skip
    cases x <;> simp only [anil, reduceCtorEq, Option.some.injEq] at hl <;> subst hl <;> (constructor <;> rw [Op.equalIn] <;> simp [run_underlying hu])
  · -- interface
    cases y <;> first | (simp at hn; done) | skip
    cases x <;> simp only [anil, reduceCtorEq, Option.some.injEq] at hl <;> subst hl <;> (constructor <;> rw [Op.equalIn] <;> simp [run_underlying hu])

theorem nilOf_flat {d : TypeDesc} {y : Value} (h : nilOf d y = true) : flat y = true := by
  cases d <;> simp only [nilOf, Bool.false_eq_true] at h <;> (cases y <;> first | (simp only [Bool.false_eq_true] at h; done) | rfl | skip)
  · rename_i a; cases a <;> first | rfl | simp at h
  · rename_i a l c
    cases a
    · cases l <;> cases c <;> first | rfl | simp at h
    · simp at h

theorem equal_run {P : Program} {m : AM} {t : TypeId} {cst : Bool} {x x' y y' : Value} {b : Bool} (hx : VR m x x') (hy : VR m y y') (hl : aeq P t cst x y = some b) (w : World) : (Op.equal t x' y').run P w = .ok b w := by
  show (Op.equalIn (9999 + 1) t x' y').run P w = .ok b w
  unfold aeq at hl
  split at hl
  · rename_i hu
    split at hl
    · obtain rfl := hx.eq_flat rfl
      obtain rfl := hy.eq_flat rfl
      injection hl with hl
      subst hl
      rw [Op.equalIn]
      simp [run_underlying hu]
    · cases hl
  · rename_i d hnb hu
    split at hl
    · split at hl
      · rename_i hn
        obtain rfl := hy.eq_flat (nilOf_flat hn)
        exact (equal_nil hu hn (anil_rel hx hl) w).1
      · split at hl
        · rename_i hn
          obtain rfl := hx.eq_flat (nilOf_flat hn)
          exact (equal_nil hu hn (anil_rel hy hl) w).2
        · cases hl
    · cases hl
  · cases hl

theorem int_run {P : Program} {op : BinOp} {k : IntKind} {a b : Int} {v : Value} (hs : op ≠ .shl) (hs' : op ≠ .shr) (hl : aint op k a b = some v) (t : TypeId) (w : World) : (binOp op t (.int k a) (.int k b)).run P w = .ok v w ∧ flat v = true := by
  cases op <;> simp only [aint, reduceCtorEq, ne_eq, not_true_eq_false, not_false_eq_true] at hl hs hs' <;>
    (first | (injection hl with hl; subst hl; exact ⟨by simp [binOp, Op.intArith, Op.intDiv, Op.intBits, Op.intCmp], rfl⟩) | (split at hl; · cases hl
                                                                                                                              · rename_i h0; injection hl with hl; subst hl; exact ⟨by simp [binOp, Op.intDiv, h0], rfl⟩))

theorem shift_run {P : Program} {op : BinOp} {k k' : IntKind} {a b : Int} {v : Value} (hl : ashift op k a b = some v) (t : TypeId) (w : World) : (binOp op t (.int k a) (.int k' b)).run P w = .ok v w ∧ flat v = true := by
  unfold ashift at hl
  split at hl
  · cases hl
  · rename_i h0
    cases op <;> simp only [reduceCtorEq] at hl <;> (injection hl with hl; subst hl; exact ⟨by simp [binOp, Op.shift, h0], rfl⟩)

def nilish : Value → Bool
  | .slice _ _ _ | .pointer _ | .nilIface | .iface _ _ | .nilFunc | .func _ _ _ => true
  | _ => false
theorem anil_ish {d : TypeDesc} {x : Value} {b : Bool} (h : anil d x = some b) : nilish x = true := by
  cases d <;> cases x <;> first | rfl | simp [anil] at h
theorem nilOf_ish {d : TypeDesc} {x : Value} (h : nilOf d x = true) : nilish x = true := by
  cases d <;> cases x <;> first | rfl | simp [nilOf] at h
theorem aeq_ish {P : Program} {m : AM} {t : TypeId} {cst : Bool} {x x' y y' : Value} {b : Bool} (hx : VR m x x') (hy : VR m y y') (hl : aeq P t cst x y = some b) :
    (∃ p q, x' = .bool p ∧ y' = .bool q) ∨ (cst = true ∧ nilish x' = true ∧ nilish y' = true) := by
  unfold aeq at hl
  split at hl
  · split at hl
    · obtain rfl := hx.eq_flat rfl
      obtain rfl := hy.eq_flat rfl
      exact .inl ⟨_, _, rfl, rfl⟩
    · cases hl
  · split at hl
    · rename_i hc
      split at hl
      · rename_i hn
        obtain rfl := hy.eq_flat (nilOf_flat hn)
        exact .inr ⟨hc, anil_ish (anil_rel hx hl), nilOf_ish hn⟩
      · split at hl
        · rename_i hn
          obtain rfl := hx.eq_flat (nilOf_flat hn)
          exact .inr ⟨hc, nilOf_ish hn, anil_ish (anil_rel hy hl)⟩
        · cases hl
    · cases hl
  · cases hl

def cstA : Operand → Operand → Bool
  | .const _, _ | _, .const _ => true
  | _, _ => false

theorem nil_run {P : Program} {op : BinOp} {t : TypeId} {a b : Operand} {x y : Value} {r : Bool} (h : (∃ p q, x = .bool p ∧ y = .bool q) ∨ (cstA a b = true ∧ nilish x = true ∧ nilish y = true)) {w : World} (he : (Op.equal t x y).run P w = .ok r w) :
    (op = .eql → ((do eqGuard op t a b x y; binOp op t x y) : Sem Value).run P w = .ok (.bool r) w) ∧ (op = .neq → ((do eqGuard op t a b x y; binOp op t x y) : Sem Value).run P w = .ok (.bool (!r)) w) := by
  have hg : (eqGuard op t a b x y).run P w = .ok () w := by
    rcases h with ⟨p, q, rfl, rfl⟩ | ⟨h1, h2, h3⟩
    · cases op <;> rfl
    · have hc : ((a matches .const _) || (b matches .const _)) = true := by cases a <;> cases b <;> first | rfl | simp [cstA] at h1
      cases x <;> simp only [nilish, Bool.false_eq_true] at h2 <;> cases y <;> simp only [nilish, Bool.false_eq_true] at h3 <;> cases op <;> first | rfl | (simp [eqGuard, hc]; done) | skip
      all_goals (cases a <;> cases b <;> first | (simp [cstA] at h1; done) | (simp [eqGuard]; done))
  refine ⟨fun ho => ?_, fun ho => ?_⟩ <;> subst ho <;> rw [Sem.run_bind, hg, Result.andThen_ok]
  · have e : binOp .eql t x y = (do pure (.bool (← Op.equal t x y))) := by
      rcases h with ⟨p, q, rfl, rfl⟩ | ⟨h1, h2, h3⟩
      · rfl
      · cases x <;> simp only [nilish, Bool.false_eq_true] at h2 <;> cases y <;> simp only [nilish, Bool.false_eq_true] at h3 <;> rfl
    rw [e, Sem.run_bind, he]; rfl
  · have e : binOp .neq t x y = (do pure (.bool (!(← Op.equal t x y)))) := by
      rcases h with ⟨p, q, rfl, rfl⟩ | ⟨h1, h2, h3⟩
      · rfl
      · cases x <;> simp only [nilish, Bool.false_eq_true] at h2 <;> cases y <;> simp only [nilish, Bool.false_eq_true] at h3 <;> rfl
    rw [e, Sem.run_bind, he]; rfl

theorem bin_sound {P : Program} {m : AM} {op : BinOp} {t : TypeId} {a b : Operand} {x x' y y' v : Value} (hx : VR m x x') (hy : VR m y y') (hl : abin P op t (cstA a b) x y = some v) (w : World) :
    ((do eqGuard op t a b x' y'; binOp op t x' y') : Sem Value).run P w = .ok v w ∧ flat v = true := by
  unfold abin at hl
  split at hl
  · rename_i k i k' j
    obtain rfl := hx.eq_flat rfl
    obtain rfl := hy.eq_flat rfl
    have hg : (eqGuard op t a b (.int k i) (.int k' j)).run P w = .ok () w := by cases op <;> rfl
    rw [Sem.run_bind, hg, Result.andThen_ok]
    split at hl
    · exact shift_run hl t w
    · exact shift_run hl t w
    · rename_i h1 h2
      split at hl
      · rename_i hk
        subst hk
        exact int_run h1 h2 hl t w
      · cases hl
  · rename_i s u
    obtain rfl := hx.eq_flat rfl
    obtain rfl := hy.eq_flat rfl
    have hg : (eqGuard op t a b (.string s) (.string u)).run P w = .ok () w := by cases op <;> rfl
    rw [Sem.run_bind, hg, Result.andThen_ok]
    split at hl
    · injection hl with hl; subst hl; exact ⟨by simp [binOp, Op.stringOp], rfl⟩
    · injection hl with hl; subst hl; exact ⟨by simp [binOp, Op.stringOp], rfl⟩
    · split at hl
      · rename_i hsz
        injection hl with hl; subst hl
        have : ¬ (((s.size + u.size : Nat) : Int) > IntKind.i64.max) := by simp [IntKind.max, IntKind.bits, IntKind.signed]; omega
        refine ⟨?_, rfl⟩
        simp only [binOp, Op.stringOp]
        rw [if_neg this]; rfl
      · cases hl
    · cases hl
  · rename_i xs ys
    split at hl
    · cases he : sEq P t xs ys with
      | none => simp [he] at hl
      | some r =>
        simp [he] at hl
        subst hl
        obtain ⟨h1, h2, _⟩ := sEq_run hx hy he .eql a b w
        exact ⟨by rw [Sem.run_bind, h1, Result.andThen_ok]; exact h2 rfl, rfl⟩
    · cases he : sEq P t xs ys with
      | none => simp [he] at hl
      | some r =>
        simp [he] at hl
        subst hl
        obtain ⟨h1, _, h2⟩ := sEq_run hx hy he .neq a b w
        exact ⟨by rw [Sem.run_bind, h1, Result.andThen_ok]; exact h2 rfl, rfl⟩
    · cases hl
  · split at hl
    · cases he : aeq P t (cstA a b) x y with
      | none => simp [he] at hl
      | some r =>
        simp [he] at hl
        subst hl
        exact ⟨(nil_run (aeq_ish hx hy he) (equal_run hx hy he w)).1 rfl, rfl⟩
    · cases he : aeq P t (cstA a b) x y with
      | none => simp [he] at hl
      | some r =>
        simp [he] at hl
        subst hl
        exact ⟨(nil_run (aeq_ish hx hy he) (equal_run hx hy he w)).2 rfl, rfl⟩
    · cases hl

end Go.Lay
