/- The layer, part 12: the walk, told by the code's form. -/
import Derived.Test.YtggkeldedennfaaLn
set_option linter.unusedVariables false
set_option linter.unusedSimpArgs false
namespace Go.Lay
open Go Go.RowKit
universe u
/- Wraps what is to be looked into, so that simp goes there and nowhere else. -/
def nx {α : Sort u} (x : α) : α := x
@[simp] theorem nx_eq {α : Sort u} (x : α) : nx x = x := congrFun (show nx = fun x : α => x from funext fun _ => rfl) x

structure both (p A B : Prop) : Prop where
  y : p → A
  n : ¬p → B
def bo (p A B : Prop) : Prop := both p A B
def gvl : Value → Bool → Option Prop
  | .bool b, w => some (b = w)
  | .tuple _, _ => some False
  | _, _ => none
def gts : List Oper → Nat → AS → Value
  | [], _, _ => undef
  | o :: _, 0, s => match o.dst with
    | some t => s t
    | none => undef
  | _ :: l, n + 1, s => gts l n s
theorem gts_eq : ∀ (l : List Oper) (j : Nat) (s : AS), gts l j s = match (l.toArray[j]?).bind (·.dst) with | some t => s t | none => undef
  | [], j, s => by simp [gts]
  | o :: l, 0, s => by simp [gts]
  | o :: l, j + 1, s => by rw [gts, gts_eq l j s]; simp
/-- an operation that is done -/
def wdo (P : Program) (o : Oper) (F : AS → AH → Prop) (s : AS) (α : AH) : Prop :=
  match o.op with
  | .call ⟨.value f, args, _⟩ => match ev s f with
    | .func (.func g) first captured => NCalls P g (first.toList ++ args.toList.map (ev s) ++ captured.toList) α (contK F s o.dst)
    | _ => False
  | .call ⟨.invoke r name, args, _⟩ => NInvoke P (ev s r) name (args.toList.map (ev s)) α (contK F s o.dst)
  | op => match aop P op s α with
    | some (v, α') => F (putA s o.dst v) α'
    | none => NPure P o s α (contK F s o.dst)
def wgd (ops : List Oper) (o : Oper) (A B : Prop) (s : AS) : Prop :=
  match o.guard with
  | none => A
  | some (j, w) => ∃ g, gvl (gts ops j s) w = some g ∧ bo g A B
def wops (P : Program) (ops : List Oper) (Q : Exit → AS → AH → Prop) : List Oper → AS → AH → Prop
  | [], s, α => Q .normal s α
  | o :: r, s, α => wgd ops o (wdo P o (wops P ops Q r) s α) (wops P ops Q r (putA s o.dst undef) α) s
def nth : List Oper → Nat → Option Oper
  | [], _ => none
  | o :: _, 0 => some o
  | _ :: l, n + 1 => nth l n
theorem nth_eq : ∀ (l : List Oper) (j : Nat), nth l j = l.toArray[j]?
  | [], j => by simp [nth]
  | o :: l, 0 => by simp [nth]
  | o :: l, j + 1 => by rw [nth, nth_eq l j]; simp
/-- one that is looked at first: calm -/
def wtk (P : Program) (ops : List Oper) (F : AS → AH → Prop) (s : AS) (α : AH) : Option Oper → Prop
  | some o => wgd ops o (match aop P o.op s α with | some (v, _) => F (putA s o.dst v) α | none => False) (F (putA s o.dst undef) α) s
  | none => False
def wat (P : Program) (ops : List Oper) (F : AS → AH → Prop) (s : AS) (α : AH) : Option Oper → Prop
  | some o => wgd ops o (wdo P o F s α) (F (putA s o.dst undef) α) s
  | none => False
/-! ### guards that are not known: what is guarded is reckoned ahead, and said to be so if .. -/
abbrev Env := List (Nat × Prop × Value)
def elk : Env → Nat → Option (Prop × Value)
  | [], _ => none
  | (d, p, v) :: E, t => if t = d then some (p, v) else elk E t
open Classical in
noncomputable def sl (p : Prop) (v : Value) : Value := if p then v else undef
def mix (E : Env) (s : AS) : AS := fun t => match elk E t with
  | some (_, v) => v
  | none => s t
def okx (E : Env) (g : Prop) : Operand → Prop
  | .tmp t => match elk E t with
    | some (p, _) => g → p
    | none => True
  | _ => True
def okl (E : Env) (g : Prop) : List Operand → Prop
  | [] => True
  | x :: l => okx E g x ∧ okl E g l
def gtn : List Oper → Nat → Option Nat
  | [], _ => none
  | o :: _, 0 => o.dst
  | _ :: l, n + 1 => gtn l n
def gvE (E : Env) (s : AS) (t : Nat) (w : Bool) : Option Prop := match elk E t with
  | some (p, .bool b) => some (p ∧ b = w)
  | some _ => none
  | none => gvl (s t) w
def gdE (ops : List Oper) (o : Oper) (E : Env) (s : AS) : Option Prop := match o.guard with
  | none => some True
  | some (j, w) => match gtn ops j with
    | some t => gvE E s t w
    | none => none
def calmO : Op → Bool
  | .load .. => true
  | op => quietA op
def wEval (P : Program) (E : Env) (g : Prop) (op : Op) (s : AS) (α : AH) (v : Value) : Prop := match op with
  | .pick c a b => okx E g c ∧ ∃ cv, ev (mix E s) c = .bool cv ∧ okx E (g ∧ cv = true) a ∧ okx E (g ∧ cv = false) b ∧ apick (.bool cv) (ev (mix E s) a) (ev (mix E s) b) = some v
  | op => okl E g op.operands.toList ∧ aop P op (mix E s) α = some (v, α)
def pE (gd : Option (Nat × Bool)) (d : Nat) (g : Prop) (v : Value) (E : Env) : Env := match gd with
  | none => E
  | some _ => (d, g, v) :: E
noncomputable def vE (gd : Option (Nat × Bool)) (g : Prop) (v : Value) : Value := match gd with
  | none => v
  | some _ => sl g v
noncomputable def wE (P : Program) (ops : List Oper) (Q : Exit → AS → AH → Prop) : List Oper → Env → AS → AH → Prop
  | [], _, s, α => Q .normal s α
  | o :: r, E, s, α => ∃ g, gdE ops o E s = some g ∧ match o.dst with
    | none => bo g (wdo P o (wE P ops Q r E) s α) (wE P ops Q r E s α)
    | some d => elk E d = none ∧ if calmO o.op = true then ∃ v, wEval P E g o.op s α v ∧ wE P ops Q r (pE o.guard d g v E) (upd s d (vE o.guard g v)) α
      else bo g (wdo P o (wE P ops Q r E) s α) (wE P ops Q r E (upd s d undef) α)
mutual
def wtr (P : Program) (ops : List Oper) (Q : Exit → AS → AH → Prop) : Tr → AS → AH → Prop
  | .done, s, α => Q .normal s α
  | .take i t, s, α => wtk P ops (wtr P ops Q t) s α (nth ops i)
  | .pick c, s, α => wch P ops Q c s α
def wch (P : Program) (ops : List Oper) (Q : Exit → AS → AH → Prop) : Ch → AS → AH → Prop
  | .nil, _, _ => True
  | .cons i t c, s, α => wat P ops (wtr P ops Q t) s α (nth ops i) ∧ wch P ops Q c s α
end
def agn (I : Nat → AS → AH → Prop) (n : Nat) (s : AS) (α : AH) : Prop := ∃ n', n' < n ∧ I n' s α
theorem agn_mk {I : Nat → AS → AH → Prop} {n : Nat} {s : AS} {α : AH} (n' : Nat) (h : n' < n) (k : I n' s α) : agn I n s α := ⟨n', h, k⟩
def wc (v : Value) (A B : Prop) : Prop := match v with
  | .bool b => bo (b = true) A B
  | _ => False
noncomputable def wk (m : Bool) (P : Program) : Code → (Exit → AS → AH → Prop) → AS → AH → Prop
  | .skip, Q, s, α => Q .normal s α
  | .exit i, Q, s, α => Q (.exit i) s α
  | .ret, Q, s, α => Q .ret s α
  | .seq x y, Q, s, α => wk m P x (nthen (wk m P y Q) Q) s α
  | .cond c x y, Q, s, α => wc (ev s c) (wk m P x Q s α) (wk m P y Q s α)
  | .block i c, Q, s, α => wk m P c (nblock i Q) s α
  | .region i ops d, Q, s, α => if d = true then ∃ t, trCheck ops t = true ∧ wtr P ops.toList Q t s α else if m = true then wE P ops.toList Q ops.toList [] s α else wops P ops.toList Q ops.toList s α
  | .loop c, Q, s, α => ∃ I n, I n s α ∧ ∀ n s α, I n s α → wk m P c (nthen (agn I n) Q) s α
  | _, _, _, _ => False

/-! ### more told, more so -/
section
variable {P : Program} {m : Bool}
theorem bo.mono {p A A' B B' : Prop} (h : bo p A B) (a : A → A') (b : B → B') : bo p A' B' := ⟨fun x => a (h.y x), fun x => b (h.n x)⟩
theorem wgd.mono {ops : List Oper} {o : Oper} {A A' B B' : Prop} {s : AS} (h : wgd ops o A B s) (a : A → A') (b : B → B') : wgd ops o A' B' s := by
  unfold wgd at h ⊢
  split
  · rename_i hg; rw [hg] at h; exact a h
  · rename_i j w hg; rw [hg] at h; obtain ⟨g, h1, h2⟩ := h; exact ⟨g, h1, h2.mono a b⟩
theorem wdo.mono {o : Oper} {F F' : AS → AH → Prop} {s : AS} {α : AH} (h : wdo P o F s α) (hF : ∀ v α', F (putA s o.dst v) α' → F' (putA s o.dst v) α') : wdo P o F' s α := by
  obtain ⟨dst, op, type, pos, after, guard⟩ := o
  have plain : (match aop P op s α with | some (v, α') => F (putA s dst v) α' | none => NPure P ⟨dst, op, type, pos, after, guard⟩ s α (contK F s dst)) →
      (match aop P op s α with | some (v, α') => F' (putA s dst v) α' | none => NPure P ⟨dst, op, type, pos, after, guard⟩ s α (contK F' s dst)) := fun hn => by
    cases hop : aop P op s α with
    | some r => rw [hop] at hn; exact hF _ _ hn
    | none => rw [hop] at hn; obtain ⟨v, h1, h2, h3, h4, h5⟩ := hn; exact ⟨v, h1, h2, h3, h4, hF _ _ h5⟩
  cases op with
  | call c =>
    obtain ⟨callee, args, ts⟩ := c
    cases callee with
    | builtin b => exact plain h
    | value f =>
      simp only [wdo] at h ⊢
      split at h
      · exact h.mono fun v α' hk => hF v α' hk
      · exact h.elim
    | invoke r n =>
      simp only [wdo] at h ⊢
      obtain ⟨t, v, g, rv, h1, h2, h3⟩ := h
      exact ⟨t, v, g, rv, h1, h2, h3.mono fun v α' hk => hF v α' hk⟩
  | _ => exact plain h

def frm (A : Nat → Bool) (s0 s : AS) : Prop := ∀ k, A k = false → s k = s0 k
theorem frm.put {A : Nat → Bool} {s0 s : AS} (h : frm A s0 s) {d : Option Nat} (hd : (match d with | some t => A t | none => true) = true) (v : Value) : frm A s0 (putA s d v) := fun k hk => by
  cases d with
  | none => exact h k hk
  | some t =>
    simp only [putA, upd]
    rw [if_neg (fun e => by subst e; simp only at hd; rw [hd] at hk; cases hk)]
    exact h k hk
def fitO (A : Nat → Bool) (o : Oper) : Bool := match o.dst with
  | some t => A t
  | none => true
def fitC (A : Nat → Bool) : Code → Bool
  | .seq x y => fitC A x && fitC A y
  | .cond _ x y => fitC A x && fitC A y
  | .block _ c => fitC A c
  | .loop c => fitC A c
  | .region _ ops _ => ops.toList.all (fitO A)
  | .skip | .exit _ | .ret => true
  | _ => false

/-- What holds then, and what is not written stays. -/
theorem wops.fr {A : Nat → Bool} {s0 : AS} {ops : List Oper} {Q Q' : Exit → AS → AH → Prop} (hQ : ∀ e s α, frm A s0 s → Q e s α → Q' e s α) : ∀ (l : List Oper) (s : AS) (α : AH), l.all (fitO A) = true → frm A s0 s → wops P ops Q l s α → wops P ops Q' l s α
  | [], s, α, _, hf, h => hQ _ _ _ hf h
  | o :: r, s, α, hl, hf, h => by
    simp only [List.all_cons, Bool.and_eq_true] at hl
    exact wgd.mono h (fun h => h.mono fun v α' hk => wops.fr hQ r _ _ hl.2 (hf.put hl.1 v) hk) (fun h => wops.fr hQ r _ _ hl.2 (hf.put hl.1 undef) h)
theorem wE.fr {A : Nat → Bool} {s0 : AS} {ops : List Oper} {Q Q' : Exit → AS → AH → Prop} (hQ : ∀ e s α, frm A s0 s → Q e s α → Q' e s α) : ∀ (l : List Oper) (E : Env) (s : AS) (α : AH), l.all (fitO A) = true → frm A s0 s → wE P ops Q l E s α → wE P ops Q' l E s α
  | [], E, s, α, _, hf, h => hQ _ _ _ hf h
  | o :: r, E, s, α, hl, hf, h => by
    simp only [List.all_cons, Bool.and_eq_true] at hl
    obtain ⟨g, h1, h2⟩ := h
    refine ⟨g, h1, ?_⟩
    have hd := hl.1
    unfold fitO at hd
    have put : ∀ v, frm A s0 (putA s o.dst v) := fun v => hf.put hl.1 v
    cases ho : o.dst with
    | none =>
      rw [ho] at h2 put
      exact h2.mono (fun h => h.mono fun v α' hk => wE.fr hQ r _ _ _ hl.2 (hf.put hl.1 v) hk) (fun h => wE.fr hQ r _ _ _ hl.2 hf h)
    | some d =>
      rw [ho] at h2 put
      obtain ⟨h2, h3⟩ := h2
      refine ⟨h2, ?_⟩
      split at h3
      · rename_i hc
        rw [if_pos hc]
        obtain ⟨v, h4, h5⟩ := h3
        exact ⟨v, h4, wE.fr hQ r _ _ _ hl.2 (put _) h5⟩
      · rename_i hc
        rw [if_neg hc]
        exact h3.mono (fun h => h.mono fun v α' hk => wE.fr hQ r _ _ _ hl.2 (hf.put hl.1 v) hk) (fun h => wE.fr hQ r _ _ _ hl.2 (put _) h)
theorem nth_all {A : Nat → Bool} : ∀ {l : List Oper} {i : Nat} {o : Oper}, l.all (fitO A) = true → nth l i = some o → fitO A o = true
  | [], _, _, _, h => by simp [nth] at h
  | o :: l, 0, _, hl, h => by simp [nth] at h; subst h; simp only [List.all_cons, Bool.and_eq_true] at hl; exact hl.1
  | o :: l, i + 1, _, hl, h => by simp only [List.all_cons, Bool.and_eq_true] at hl; exact nth_all hl.2 h
mutual
theorem wtr.fr {A : Nat → Bool} {s0 : AS} {ops : List Oper} {Q Q' : Exit → AS → AH → Prop} (hQ : ∀ e s α, frm A s0 s → Q e s α → Q' e s α) (ho : ops.all (fitO A) = true) : ∀ (t : Tr) (s : AS) (α : AH), frm A s0 s → wtr P ops Q t s α → wtr P ops Q' t s α
  | .done, s, α, hf, h => by rw [wtr] at h ⊢; exact hQ _ _ _ hf h
  | .take i t, s, α, hf, h => by
    rw [wtr] at h ⊢
    cases hi : nth ops i with
    | none => rw [hi] at h; exact h.elim
    | some o =>
      rw [hi] at h
      have hd := nth_all ho hi
      refine wgd.mono h (fun h => ?_) (fun h => wtr.fr hQ ho t _ _ (hf.put hd undef) h)
      split at h
      · exact wtr.fr hQ ho t _ _ (hf.put hd _) h
      · exact h.elim
  | .pick c, s, α, hf, h => by rw [wtr] at h ⊢; exact wch.fr hQ ho c s α hf h
theorem wch.fr {A : Nat → Bool} {s0 : AS} {ops : List Oper} {Q Q' : Exit → AS → AH → Prop} (hQ : ∀ e s α, frm A s0 s → Q e s α → Q' e s α) (ho : ops.all (fitO A) = true) : ∀ (c : Ch) (s : AS) (α : AH), frm A s0 s → wch P ops Q c s α → wch P ops Q' c s α
  | .nil, s, α, hf, h => by rw [wch]; trivial
  | .cons i t c, s, α, hf, h => by
    rw [wch] at h ⊢
    refine ⟨?_, wch.fr hQ ho c s α hf h.2⟩
    have h := h.1
    cases hi : nth ops i with
    | none => rw [hi] at h; exact h.elim
    | some o =>
      rw [hi] at h
      have hd := nth_all ho hi
      exact wgd.mono h (fun h => h.mono fun v α' hk => wtr.fr hQ ho t _ _ (hf.put hd v) hk) (fun h => wtr.fr hQ ho t _ _ (hf.put hd undef) h)
end
theorem wk.fr {A : Nat → Bool} {s0 : AS} : ∀ (c : Code) (Q Q' : Exit → AS → AH → Prop) (s : AS) (α : AH), (∀ e s α, frm A s0 s → Q e s α → Q' e s α) → fitC A c = true → frm A s0 s → wk m P c Q s α → wk m P c Q' s α
  | .skip, Q, Q', s, α, hQ, hc, hf, h => hQ _ _ _ hf h
  | .exit i, Q, Q', s, α, hQ, hc, hf, h => hQ _ _ _ hf h
  | .ret, Q, Q', s, α, hQ, hc, hf, h => hQ _ _ _ hf h
  | .seq x y, Q, Q', s, α, hQ, hc, hf, h => by
    simp only [fitC, Bool.and_eq_true] at hc
    simp only [wk] at h ⊢
    refine wk.fr x _ _ s α (fun e s α hf' h' => ?_) hc.1 hf h
    cases e <;> first | exact wk.fr y Q Q' s α hQ hc.2 hf' h' | exact hQ _ _ _ hf' h'
  | .cond c x y, Q, Q', s, α, hQ, hc, hf, h => by
    simp only [fitC, Bool.and_eq_true] at hc
    simp only [wk] at h ⊢
    unfold wc at h ⊢
    split at h
    · exact h.mono (wk.fr x Q Q' s α hQ hc.1 hf) (wk.fr y Q Q' s α hQ hc.2 hf)
    · exact h.elim
  | .block i c, Q, Q', s, α, hQ, hc, hf, h => by
    simp only [fitC] at hc
    simp only [wk] at h ⊢
    refine wk.fr c _ _ s α (fun e s α hf' h' => ?_) hc hf h
    cases e <;> simp only [nblock] at h' ⊢ <;> first | exact hQ _ _ _ hf' h' | skip
    split
    · rename_i he; rw [if_pos he] at h'; exact hQ _ _ _ hf' h'
    · rename_i he; rw [if_neg he] at h'; exact hQ _ _ _ hf' h'
  | .region i ops d, Q, Q', s, α, hQ, hc, hf, h => by
    simp only [fitC] at hc
    simp only [wk] at h ⊢
    split
    · rename_i hd; rw [if_pos hd] at h; obtain ⟨t, h1, h2⟩ := h; exact ⟨t, h1, wtr.fr hQ hc t s α hf h2⟩
    · rename_i hd
      rw [if_neg hd] at h
      split
      · rename_i hm; rw [if_pos hm] at h; exact wE.fr hQ _ _ s α hc hf h
      · rename_i hm; rw [if_neg hm] at h; exact wops.fr hQ _ s α hc hf h
  | .loop c, Q, Q', s, α, hQ, hc, hf, h => by
    simp only [fitC] at hc
    simp only [wk] at h ⊢
    obtain ⟨I, n, h0, h⟩ := h
    refine ⟨fun n s α => I n s α ∧ frm A s0 s, n, ⟨h0, hf⟩, fun n s α ⟨h1, h2⟩ => wk.fr c _ _ s α (fun e s α hf' h' => ?_) hc h2 (h n s α h1)⟩
    cases e <;> first | (obtain ⟨n', k1, k2⟩ := h'; exact ⟨n', k1, k2, hf'⟩) | exact hQ _ _ _ hf' h'
  | .rangeFunc .., _, _, _, _, _, hc, _, _ | .scope .., _, _, _, _, _, hc, _, _ | .label .., _, _, _, _, _, hc, _, _ | .goto .., _, _, _, _, _, hc, _, _ | .refuse .., _, _, _, _, _, hc, _, _ => by simp [fitC] at hc

/-! ### it is so -/
theorem bo_and {A B C : Prop} {g : Bool} {w : Option Bool} (hw : w = some g) {want : Bool} (h : bo (g = want) A B) (a : A → C) (b : B → C) : C := by
  by_cases hg : g = want
  · exact a (h.y hg)
  · exact b (h.n hg)
theorem wgd_sound {ops : List Oper} {o : Oper} {A B : Prop} {s : AS} (h : wgd ops o A B s) : guardOk ops.toArray o s ∧ (wantedA ops.toArray o s = true → A) ∧ (wantedA ops.toArray o s = false → B) := by
  unfold wgd at h
  unfold guardOk wantedA yieldedA
  cases hg : o.guard with
  | none => rw [hg] at h; exact ⟨trivial, fun _ => h, fun h => by cases h⟩
  | some jw =>
    obtain ⟨j, w⟩ := jw
    rw [hg] at h
    obtain ⟨g, h1, h2⟩ := h
    rw [gts_eq] at h1
    simp only
    cases ht : (ops.toArray[j]?).bind (·.dst) with
    | none =>
      rw [ht] at h1
      simp only [undef, gvl, Option.some.injEq] at h1
      subst h1
      exact ⟨trivial, fun h => by simp at h, fun _ => h2.n id⟩
    | some t =>
      rw [ht] at h1
      simp only at h1 ⊢
      refine ⟨fun hj => by rw [hj] at h1; simp [gvl, junk] at h1, ?_⟩
      unfold gvl at h1
      split at h1
      · rename_i b w' hb
        injection h1 with h1
        subst h1
        rw [hb]
        refine ⟨fun h => h2.y (by simpa using h), fun h => h2.n (by simpa using h)⟩
      · rename_i b w' hb
        injection h1 with h1
        subst h1
        rw [hb]
        exact ⟨fun h => by simp at h, fun _ => h2.n id⟩
      · cases h1
theorem wdo_nop {N : Nat} {o : Oper} {F : AS → AH → Prop} {s : AS} {α : AH} (hd : fitsA N o.dst) (h : wdo P o F s α) : NOp P N o F s α := by
  refine ⟨hd, ?_⟩
  obtain ⟨dst, op, type, pos, after, guard⟩ := o
  cases op with
  | call c =>
    obtain ⟨callee, args, ts⟩ := c
    cases callee <;> exact h
  | _ => exact h
def ltB (N : Nat) : Nat → Bool := fun k => decide (k < N)
theorem fit_lt {N : Nat} {o : Oper} (h : fitO (ltB N) o = true) : fitsA N o.dst := by
  unfold fitO at h
  cases hd : o.dst with
  | none => trivial
  | some t => rw [hd] at h; simpa [ltB] using h
theorem wops_nops {N : Nat} {ops : List Oper} {Q : Exit → AS → AH → Prop} {K : AS → AH → Prop} (hK : ∀ s α, Q .normal s α → K s α) : ∀ (l : List Oper) (s : AS) (α : AH), l.all (fitO (ltB N)) = true → wops P ops Q l s α → NOps P N ops.toArray K l s α
  | [], s, α, _, h => hK s α h
  | o :: r, s, α, hl, h => by
    simp only [List.all_cons, Bool.and_eq_true] at hl
    obtain ⟨h1, h2, h3⟩ := wgd_sound h
    refine ⟨h1, ?_⟩
    cases hw : wantedA ops.toArray o s with
    | true => rw [if_pos rfl]; exact wdo_nop (fit_lt hl.1) ((h2 hw).mono fun v α' hk => wops_nops hK r _ _ hl.2 hk)
    | false => rw [if_neg (by simp)]; exact ⟨fit_lt hl.1, wops_nops hK r _ _ hl.2 (h3 hw)⟩
theorem gtn_eq : ∀ (l : List Oper) (j : Nat), gtn l j = (l.toArray[j]?).bind (·.dst)
  | [], j => by simp [gtn]
  | o :: l, 0 => by simp [gtn]
  | o :: l, j + 1 => by rw [gtn, gtn_eq l j]; simp
theorem sl_pos {p : Prop} {v : Value} (h : p) : sl p v = v := if_pos h
theorem sl_neg {p : Prop} {v : Value} (h : ¬p) : sl p v = undef := if_neg h
def Inv (E : Env) (s : AS) : Prop := ∀ t p v, elk E t = some (p, v) → s t = sl p v
theorem okx_ev {E : Env} {s : AS} (hI : Inv E s) {g : Prop} (hg : g) {x : Operand} (h : okx E g x) : ev s x = ev (mix E s) x := by
  cases x with
  | tmp t =>
    simp only [okx] at h
    simp only [ev, mix]
    cases he : elk E t with
    | none => rfl
    | some pv =>
      obtain ⟨p, v⟩ := pv
      rw [he] at h
      rw [hI t p v he, sl_pos (h hg)]
  | _ => rfl
theorem okl_ev {E : Env} {s : AS} (hI : Inv E s) {g : Prop} (hg : g) : ∀ {l : List Operand}, okl E g l → ∀ x ∈ l, ev s x = ev (mix E s) x
  | [], _, x, hx => by cases hx
  | y :: l, h, x, hx => by
    rcases List.mem_cons.1 hx with rfl | hx
    · exact okx_ev hI hg h.1
    · exact okl_ev hI hg h.2 x hx
theorem apick_t (a b : Value) : apick (.bool true) a b = some a := by unfold apick; cases a <;> cases b <;> rfl
theorem apick_f (a b : Value) : apick (.bool false) a b = some b := by unfold apick; cases a <;> cases b <;> rfl
theorem wEval_aop {E : Env} {s : AS} (hI : Inv E s) {g : Prop} (hg : g) {op : Op} {α : AH} {v : Value} (h : wEval P E g op s α v) : aop P op s α = some (v, α) := by
  have gen : okl E g op.operands.toList ∧ aop P op (mix E s) α = some (v, α) → aop P op s α = some (v, α) := fun ⟨h1, h2⟩ => by
    rw [← h2]
    exact aop_congr fun x hx => okl_ev hI hg h1 x (by simpa using hx)
  cases op with
  | pick c a b =>
    obtain ⟨h1, cv, h2, h3, h4, h5⟩ := h
    have hc := okx_ev hI hg h1
    simp only [aop, keep, hc, h2]
    cases cv with
    | true => rw [apick_t] at h5 ⊢; rw [okx_ev hI ⟨hg, rfl⟩ h3]; cases h5; rfl
    | false => rw [apick_f] at h5 ⊢; rw [okx_ev hI ⟨hg, rfl⟩ h4]; cases h5; rfl
  | _ => exact gen h
theorem gdE_sound {ops : List Oper} {o : Oper} {E : Env} {s : AS} (hI : Inv E s) {g : Prop} (h : gdE ops o E s = some g) : guardOk ops.toArray o s ∧ (wantedA ops.toArray o s = true ↔ g) := by
  unfold gdE at h
  unfold guardOk wantedA yieldedA
  cases hg : o.guard with
  | none => rw [hg] at h; cases h; exact ⟨trivial, by simp⟩
  | some jw =>
    obtain ⟨j, w⟩ := jw
    rw [hg] at h
    simp only at h ⊢
    rw [gtn_eq] at h
    cases ht : (ops.toArray[j]?).bind (·.dst) with
    | none => rw [ht] at h; cases h
    | some t =>
      rw [ht] at h
      simp only [gvE] at h
      simp only
      cases he : elk E t with
      | some pv =>
        obtain ⟨p, v⟩ := pv
        rw [he] at h
        cases v <;> first | (cases h; done) | skip
        rename_i b
        simp only [Option.some.injEq] at h
        subst h
        have hs := hI t p _ he
        by_cases hp : p
        · rw [hs, sl_pos hp]; simp [hp, junk]
        · rw [hs, sl_neg hp]; simp [hp, junk, undef]
      | none =>
        rw [he] at h
        dsimp only at h
        unfold gvl at h
        split at h
        · rename_i hv; cases h; rw [hv]; simp [junk]
        · rename_i hv; cases h; rw [hv]; simp [junk]
        · cases h
theorem Inv.put {E : Env} {s : AS} (hI : Inv E s) {d : Nat} (hd : elk E d = none) (v : Value) : Inv E (upd s d v) := fun t p u he => by
  simp only [upd]
  rw [if_neg (fun h => by subst h; rw [hd] at he; cases he)]
  exact hI t p u he
theorem wE_nops {N : Nat} {ops : List Oper} {Q : Exit → AS → AH → Prop} {K : AS → AH → Prop} (hK : ∀ s α, Q .normal s α → K s α) : ∀ (l : List Oper) (E : Env) (s : AS) (α : AH), Inv E s → l.all (fitO (ltB N)) = true → wE P ops Q l E s α → NOps P N ops.toArray K l s α
  | [], E, s, α, _, _, h => hK s α h
  | o :: r, E, s, α, hI, hl, h => by
    simp only [List.all_cons, Bool.and_eq_true] at hl
    obtain ⟨g, h1, h2⟩ := h
    obtain ⟨k1, k2⟩ := gdE_sound hI h1
    refine ⟨k1, ?_⟩
    have hfit := fit_lt hl.1
    have rough : bo g (wdo P o (wE P ops Q r E) s α) (wE P ops Q r E (putA s o.dst undef) α) → (∀ d, o.dst = some d → elk E d = none) → if wantedA ops.toArray o s = true then NOp P N o (kont P N ops.toArray K r) s α else fitsA N o.dst ∧ NOps P N ops.toArray K r (putA s o.dst undef) α := fun hb hd => by
      have hput : ∀ v, Inv E (putA s o.dst v) := fun v => by
        cases ho : o.dst with
        | none => exact hI
        | some d => exact hI.put (hd d ho) v
      by_cases hg : g
      · rw [if_pos (k2.2 hg)]; exact wdo_nop hfit ((hb.y hg).mono fun v α' hk => wE_nops hK r E _ _ (hput v) hl.2 hk)
      · rw [if_neg (fun hw => hg (k2.1 hw))]; exact ⟨hfit, wE_nops hK r E _ _ (hput _) hl.2 (hb.n hg)⟩
    cases ho : o.dst with
    | none =>
      rw [ho] at h2
      have := rough (by rw [ho]; exact h2) (fun d hd => by rw [ho] at hd; cases hd)
      rw [ho] at this
      exact this
    | some d =>
      rw [ho] at h2
      obtain ⟨h2, h3⟩ := h2
      split at h3
      · rename_i hc
        obtain ⟨v, h4, h5⟩ := h3
        rw [ho] at hfit
        have hI' : Inv (pE o.guard d g v E) (upd s d (vE o.guard g v)) := by
          cases hgd : o.guard with
          | none => exact hI.put h2 v
          | some jw =>
            intro t p u he
            simp only [pE, elk] at he
            split at he
            · rename_i htd; cases he; subst htd; simp [upd, vE]
            · rename_i htd; simp only [upd]; rw [if_neg htd]; exact hI t p u he
        have ih := wE_nops hK r _ _ _ hI' hl.2 h5
        by_cases hg : g
        · rw [if_pos (k2.2 hg)]
          have hv : vE o.guard g v = v := by cases o.guard <;> simp [vE, sl_pos hg]
          rw [hv] at ih
          have ha := wEval_aop hI hg h4
          have : wdo P o (kont P N ops.toArray K r) s α ↔ kont P N ops.toArray K r (putA s o.dst v) α := by
            obtain ⟨dst, op, type, pos, after, guard⟩ := o
            simp only at hc ha ho
            have pl : (match aop P op s α with | some (v, α') => kont P N ops.toArray K r (putA s dst v) α' | none => NPure P ⟨dst, op, type, pos, after, guard⟩ s α (contK (kont P N ops.toArray K r) s dst)) ↔ kont P N ops.toArray K r (putA s dst v) α := by rw [ha]
            cases op with
            | call c =>
              obtain ⟨callee, args, ts⟩ := c
              cases callee with
              | builtin b => exact pl
              | value f => simp [calmO, quietA] at hc
              | invoke q n => simp [calmO, quietA] at hc
            | _ => exact pl
          rw [ho] at this
          exact wdo_nop (by rw [ho]; exact hfit) (this.2 ih)
        · rw [if_neg (fun hw => hg (k2.1 hw))]
          have hgd : o.guard ≠ none := fun hgd => by simp only [gdE, hgd, Option.some.injEq] at h1; subst h1; exact hg trivial
          have hv : vE o.guard g v = undef := by cases hx : o.guard with | none => exact absurd hx hgd | some jw => simp [vE, sl_neg hg]
          rw [hv] at ih
          exact ⟨hfit, ih⟩
      · have := rough (by rw [ho]; exact h3) (fun d' hd => by rw [ho] at hd; cases hd; exact h2)
        rw [ho] at this
        exact this
mutual
theorem wtr_ntr {N : Nat} {ops : List Oper} {Q : Exit → AS → AH → Prop} {K : AS → AH → Prop} (hK : ∀ s α, Q .normal s α → K s α) (ho : ops.all (fitO (ltB N)) = true) : ∀ (t : Tr) (s : AS) (α : AH), wtr P ops Q t s α → NTr P N ops.toArray K t s α
  | .done, s, α, h => by rw [wtr] at h; rw [NTr]; exact hK s α h
  | .take i t, s, α, h => by
    rw [wtr] at h; rw [NTr]
    unfold NTake
    rw [← nth_eq]
    cases hi : nth ops i with
    | none => rw [hi] at h; exact h.elim
    | some o =>
      rw [hi] at h
      obtain ⟨h1, h2, h3⟩ := wgd_sound h
      refine ⟨h1, fit_lt (nth_all ho hi), ?_⟩
      cases hw : wantedA ops.toArray o s with
      | true =>
        rw [if_pos rfl]
        have h2 := h2 hw
        split at h2
        · rename_i hop; rw [hop]; exact wtr_ntr hK ho t _ _ h2
        · exact h2.elim
      | false => rw [if_neg (by simp)]; exact wtr_ntr hK ho t _ _ (h3 hw)
  | .pick c, s, α, h => by rw [wtr] at h; rw [NTr]; exact wch_nch hK ho c s α h
theorem wch_nch {N : Nat} {ops : List Oper} {Q : Exit → AS → AH → Prop} {K : AS → AH → Prop} (hK : ∀ s α, Q .normal s α → K s α) (ho : ops.all (fitO (ltB N)) = true) : ∀ (c : Ch) (s : AS) (α : AH), wch P ops Q c s α → NCh P N ops.toArray K c s α
  | .nil, s, α, h => by rw [NCh]; trivial
  | .cons i t c, s, α, h => by
    rw [wch] at h; rw [NCh]
    refine ⟨?_, wch_nch hK ho c s α h.2⟩
    have h := h.1
    unfold NAt
    rw [← nth_eq]
    cases hi : nth ops i with
    | none => rw [hi] at h; exact h.elim
    | some o =>
      rw [hi] at h
      obtain ⟨h1, h2, h3⟩ := wgd_sound h
      have hd := fit_lt (nth_all ho hi)
      refine ⟨h1, ?_⟩
      cases hw : wantedA ops.toArray o s with
      | true => rw [if_pos rfl]; exact wdo_nop hd ((h2 hw).mono fun v α' hk => wtr_ntr hK ho t _ _ hk)
      | false => rw [if_neg (by simp)]; exact ⟨hd, wtr_ntr hK ho t _ _ (h3 hw)⟩
end
theorem wk_nw {N : Nat} (hm : P.follows .mixedOrders = true) : ∀ (c : Code) (Q Q' : Exit → AS → AH → Prop) (s : AS) (α : AH), (∀ e s α, Q e s α → Q' e s α) → fitC (ltB N) c = true → wk m P c Q s α → NW P N c Q' s α
  | .skip, Q, Q', s, α, hQ, hc, h => nw_skip (hQ _ _ _ h)
  | .exit i, Q, Q', s, α, hQ, hc, h => nw_exit (hQ _ _ _ h)
  | .ret, Q, Q', s, α, hQ, hc, h => nw_ret (hQ _ _ _ h)
  | .seq x y, Q, Q', s, α, hQ, hc, h => by
    simp only [fitC, Bool.and_eq_true] at hc
    simp only [wk] at h
    refine nw_seq (wk_nw hm x _ _ s α (fun e s α h' => ?_) hc.1 h)
    cases e <;> first | exact wk_nw hm y Q Q' s α hQ hc.2 h' | exact hQ _ _ _ h'
  | .cond c x y, Q, Q', s, α, hQ, hc, h => by
    simp only [fitC, Bool.and_eq_true] at hc
    simp only [wk] at h
    unfold wc at h
    split at h
    · rename_i b hb
      exact nw_cond hb (fun ht => wk_nw hm x Q Q' s α hQ hc.1 (h.y ht)) (fun hf => wk_nw hm y Q Q' s α hQ hc.2 (h.n (by simp [hf])))
    · exact h.elim
  | .block i c, Q, Q', s, α, hQ, hc, h => by
    simp only [fitC] at hc
    simp only [wk] at h
    refine nw_block (wk_nw hm c _ _ s α (fun e s α h' => ?_) hc h)
    cases e <;> simp only [nblock] at h' ⊢ <;> first | exact hQ _ _ _ h' | skip
    split
    · rename_i he; rw [if_pos he] at h'; exact hQ _ _ _ h'
    · rename_i he; rw [if_neg he] at h'; exact hQ _ _ _ h'
  | .region i ⟨ops⟩ d, Q, Q', s, α, hQ, hc, h => by
    simp only [fitC] at hc
    simp only [wk] at h
    cases d with
    | true =>
      rw [if_pos rfl] at h
      obtain ⟨t, h1, h2⟩ := h
      exact nw_draw t hm h1 fun K hK => wtr_ntr (fun s α hq => hK s α (hQ _ _ _ hq)) hc t s α h2
    | false =>
      rw [if_neg (by simp)] at h
      cases m with
      | true => rw [if_pos rfl] at h; exact nw_region fun K hK => wE_nops (fun s α hq => hK s α (hQ _ _ _ hq)) ops [] s α (fun _ _ _ he => by cases he) hc h
      | false => rw [if_neg (by simp)] at h; exact nw_region fun K hK => wops_nops (fun s α hq => hK s α (hQ _ _ _ hq)) ops s α hc h
  | .loop c, Q, Q', s, α, hQ, hc, h => by
    simp only [fitC] at hc
    simp only [wk] at h
    obtain ⟨I, n, h0, h⟩ := h
    refine nw_loop I n h0 fun n s α hI => wk_nw hm c _ _ s α (fun e s α h' => ?_) hc (h n s α hI)
    cases e <;> first | exact h' | exact hQ _ _ _ h'
  | .rangeFunc .., _, _, _, _, _, hc, _ | .scope .., _, _, _, _, _, hc, _ | .label .., _, _, _, _, _, hc, _ | .goto .., _, _, _, _, _, hc, _ | .refuse .., _, _, _, _, _, hc, _ => by simp [fitC] at hc

/-! ### trees told by places among those that are left -/
def plk : Nat → List Oper → Option (Oper × List Oper)
  | _, [] => none
  | 0, o :: r => some (o, r)
  | n + 1, a :: r => (plk n r).map fun x => (x.1, a :: x.2)
mutual
def rwk (P : Program) (ops : List Oper) (Q : Exit → AS → AH → Prop) : Tr → List Oper → AS → AH → Prop
  | .done, _, s, α => Q .normal s α
  | .take i t, l, s, α => match plk i l with
    | some (o, r) => wtk P ops (rwk P ops Q t r) s α (some o)
    | none => False
  | .pick c, l, s, α => rch P ops Q c l s α
def rch (P : Program) (ops : List Oper) (Q : Exit → AS → AH → Prop) : Ch → List Oper → AS → AH → Prop
  | .nil, _, _, _ => True
  | .cons i t c, l, s, α => (match plk i l with
    | some (o, r) => wat P ops (rwk P ops Q t r) s α (some o)
    | none => False) ∧ rch P ops Q c l s α
end
def tks : List Nat → Tr → Tr
  | [], t => t
  | k :: l, t => .take k (tks l t)
def plq : Nat → List Nat → Nat × List Nat
  | _, [] => (0, [])
  | 0, o :: r => (o, r)
  | n + 1, a :: r => ((plq n r).1, a :: (plq n r).2)
mutual
def absT : Tr → List Nat → Tr
  | .done, _ => .done
  | .take i t, l => .take (plq i l).1 (absT t (plq i l).2)
  | .pick c, l => .pick (absC c l)
def absC : Ch → List Nat → Ch
  | .nil, _ => .nil
  | .cons i t c, l => .cons (plq i l).1 (absT t (plq i l).2) (absC c l)
end
def Lie (ops : List Oper) (l : List Oper) (q : List Nat) : Prop := l.map some = q.map (nth ops)
theorem plk_plq {ops : List Oper} : ∀ {i : Nat} {l : List Oper} {q : List Nat} {o : Oper} {r : List Oper}, Lie ops l q → plk i l = some (o, r) → nth ops (plq i q).1 = some o ∧ Lie ops r (plq i q).2
  | _, [], _, _, _, _, h => by cases ‹Nat› <;> simp [plk] at h
  | _, _ :: _, [], _, _, h, _ => by simp [Lie] at h
  | 0, a :: l, b :: q, o, r, h, k => by
    simp [Lie] at h
    simp [plk] at k
    obtain ⟨rfl, rfl⟩ := k
    exact ⟨h.1.symm, h.2⟩
  | i + 1, a :: l, b :: q, o, r, h, k => by
    simp [Lie] at h
    simp [plk] at k
    obtain ⟨x, y, k1, k2, k3⟩ := k
    subst k2
    subst k3
    obtain ⟨e1, e2⟩ := plk_plq (show Lie ops l q from h.2) k1
    exact ⟨e1, by simp [Lie, plq, h.1]; exact e2⟩
theorem wtk.mono {ops : List Oper} {F F' : AS → AH → Prop} {s : AS} {α : AH} {o : Option Oper} (h : wtk P ops F s α o) (hF : ∀ s α, F s α → F' s α) : wtk P ops F' s α o := by
  cases o with
  | none => exact h.elim
  | some o =>
    refine wgd.mono h (fun h => ?_) (fun h => hF _ _ h)
    split at h
    · exact hF _ _ h
    · exact h.elim
theorem wat.mono {ops : List Oper} {F F' : AS → AH → Prop} {s : AS} {α : AH} {o : Option Oper} (h : wat P ops F s α o) (hF : ∀ s α, F s α → F' s α) : wat P ops F' s α o := by
  cases o with
  | none => exact h.elim
  | some o => exact wgd.mono h (fun h => h.mono fun v α' hk => hF _ _ hk) (fun h => hF _ _ h)
mutual
theorem rwk_wtr {ops : List Oper} {Q : Exit → AS → AH → Prop} : ∀ (t : Tr) (l : List Oper) (q : List Nat) (s : AS) (α : AH), Lie ops l q → rwk P ops Q t l s α → wtr P ops Q (absT t q) s α
  | .done, l, q, s, α, hl, h => by rw [rwk] at h; rw [absT, wtr]; exact h
  | .take i t, l, q, s, α, hl, h => by
    rw [rwk] at h; rw [absT, wtr]
    cases hp : plk i l with
    | none => rw [hp] at h; exact h.elim
    | some x =>
      obtain ⟨o, r⟩ := x
      rw [hp] at h
      obtain ⟨e1, e2⟩ := plk_plq hl hp
      rw [e1]
      exact wtk.mono h fun s α hh => rwk_wtr t r _ s α e2 hh
  | .pick c, l, q, s, α, hl, h => by rw [rwk] at h; rw [absT, wtr]; exact rch_wch c l q s α hl h
theorem rch_wch {ops : List Oper} {Q : Exit → AS → AH → Prop} : ∀ (c : Ch) (l : List Oper) (q : List Nat) (s : AS) (α : AH), Lie ops l q → rch P ops Q c l s α → wch P ops Q (absC c q) s α
  | .nil, l, q, s, α, hl, h => by rw [absC, wch]; trivial
  | .cons i t c, l, q, s, α, hl, h => by
    rw [rch] at h; rw [absC, wch]
    refine ⟨?_, rch_wch c l q s α hl h.2⟩
    have h := h.1
    cases hp : plk i l with
    | none => rw [hp] at h; exact h.elim
    | some x =>
      obtain ⟨o, r⟩ := x
      rw [hp] at h
      obtain ⟨e1, e2⟩ := plk_plq hl hp
      rw [e1]
      exact wat.mono h fun s α hh => rwk_wtr t r _ s α e2 hh
end
theorem lie0 : ∀ (l : List Oper), Lie l l (List.range l.length)
  | [] => rfl
  | o :: l => by
    have := lie0 l
    simp only [Lie] at this
    simp only [Lie, List.length_cons, List.range_succ_eq_map, List.map_cons, nth, List.map_map]
    rw [this]
    rfl
/-- A function, walked. -/
theorem ncw0 (m : Bool) (hm : P.follows .mixedOrders = true) {f : FuncId} {fn : Func} {c : Code} {rs : Array ResultVar} {args : List Value} {α : AH} {Q : Value → AH → Prop} (hf : P.funcs[f]? = some fn) (hb : fn.body = some c) (hr : fn.results = rs)
    (hk : (enters P f && decide (args.length ≤ fn.ntmps) && fitC (ltB fn.ntmps) c) = true) (h : wk m (nx P) c (bodyQ P rs.toList Q) (initS args) α) : NCalls P f args α Q := by
  simp only [Bool.and_eq_true, decide_eq_true_eq] at hk
  subst hr
  exact ncalls_of hk.1.1 hf hb hk.1.2 (wk_nw hm c _ _ _ α (fun _ _ _ h => h) hk.2 h)

theorem ncw (hm : P.follows .mixedOrders = true) {f : FuncId} {fn : Func} {c : Code} {rs : Array ResultVar} {args : List Value} {α : AH} {Q : Value → AH → Prop} (hf : P.funcs[f]? = some fn) (hb : fn.body = some c) (hr : fn.results = rs)
    (hk : (enters P f && decide (args.length ≤ fn.ntmps) && fitC (ltB fn.ntmps) c) = true) (h : wk false (nx P) c (bodyQ P rs.toList Q) (initS args) α) : NCalls P f args α Q := ncw0 false hm hf hb hr hk h
/-- The same, guards not known reckoned ahead. -/
theorem ncg (hm : P.follows .mixedOrders = true) {f : FuncId} {fn : Func} {c : Code} {rs : Array ResultVar} {args : List Value} {α : AH} {Q : Value → AH → Prop} (hf : P.funcs[f]? = some fn) (hb : fn.body = some c) (hr : fn.results = rs)
    (hk : (enters P f && decide (args.length ≤ fn.ntmps) && fitC (ltB fn.ntmps) c) = true) (h : wk true (nx P) c (bodyQ P rs.toList Q) (initS args) α) : NCalls P f args α Q := ncw0 true hm hf hb hr hk h
/-! ### loops -/
/-- what stands at the places that a loop writes is t's; all else is as ahead of it -/
def ovA (V : List Nat) (lo hi : Nat) : Nat → Bool := fun k => (decide (lo ≤ k) && decide (k ≤ hi)) || V.contains k
def over (V : List Nat) (lo hi : Nat) (t s : AS) : AS := fun k => if lo ≤ k ∧ k ≤ hi then t k else if k ∈ V then t k else s k
theorem over_eq {V : List Nat} {lo hi : Nat} {s t : AS} (h : frm (ovA V lo hi) s t) : over V lo hi t s = t := by
  funext k
  unfold over
  by_cases hk : lo ≤ k ∧ k ≤ hi
  · rw [if_pos hk]
  · rw [if_neg hk]
    by_cases hv : k ∈ V
    · rw [if_pos hv]
    · rw [if_neg hv]
      refine (h k ?_).symm
      simp only [ovA, Bool.or_eq_false_iff, Bool.and_eq_false_iff, decide_eq_false_iff_not]
      refine ⟨by omega, ?_⟩
      simpa using hv
theorem wloop {c : Code} {Q : Exit → AS → AH → Prop} {s : AS} {α : AH} (V : List Nat) (lo hi : Nat) (hA : fitC (ovA V lo hi) c = true) (n : Nat) (I : Nat → AS → AH → Prop) (h0 : I n s α)
    (h : ∀ n t α', I n t α' → wk m (nx P) c (nthen (agn I n) Q) (over V lo hi t s) α') : wk m P (.loop c) Q s α := by
  simp only [wk]
  refine ⟨fun n t α' => I n t α' ∧ frm (ovA V lo hi) s t, n, ⟨h0, fun _ _ => rfl⟩, fun n t α' ⟨h1, h2⟩ => ?_⟩
  have e := over_eq h2
  have h3 := h n t α' h1
  rw [e] at h3
  refine wk.fr (A := ovA V lo hi) (s0 := s) c _ _ t α' (fun e s' α' hf' h' => ?_) hA h2 h3
  cases e <;> first | (obtain ⟨n', k1, k2⟩ := h'; exact ⟨n', k1, k2, hf'⟩) | exact h'

/-- Two ways that meet: what holds there. -/
theorem wcut {c : Code} {K J : AS → AH → Prop} {Q : Exit → AS → AH → Prop} {s : AS} {α : AH} (h : wk m (nx P) c (nthen J Q) s α) (k : ∀ s α, J s α → K s α) (hc : fitC (fun _ => true) c = true) : wk m P c (nthen K Q) s α :=
  wk.fr (A := fun _ => true) (s0 := s) c _ _ s α (fun e s α _ h => by cases e <;> first | exact k s α h | exact h) hc (fun _ _ => rfl) h
/-- The same, where what is not written stays. -/
theorem wcutv {c : Code} {K : AS → AH → Prop} {Q : Exit → AS → AH → Prop} {s : AS} {α : AH} (V : List Nat) (lo hi : Nat) (hc : fitC (ovA V lo hi) c = true) (J : AS → AH → Prop) (h : wk m (nx P) c (nthen J Q) s α) (k : ∀ t α', J t α' → K (over V lo hi t s) α') : wk m P c (nthen K Q) s α := by
  refine wk.fr (A := ovA V lo hi) (s0 := s) c _ _ s α (fun e t α' hf h => ?_) hc (fun _ _ => rfl) h
  cases e <;> try exact h
  have e := over_eq hf
  have := k t α' h
  rw [e] at this
  exact this
theorem wdraw {i : Nat} {l : List Oper} {Q : Exit → AS → AH → Prop} {s : AS} {α : AH} (t : Tr) (hk : trCheck l.toArray (absT t (List.range l.length)) = true) (h : rwk (nx P) l Q t l s α) : wk m P (.region i l.toArray true) Q s α := by
  simp only [wk, if_pos rfl]
  exact ⟨_, hk, rwk_wtr t l _ s α (lie0 l) h⟩
end
end Go.Lay
