/- The layer, part 13: the walk by simp. -/
import Derived.Test.YtggkeldedennfaaLw
set_option linter.unusedVariables false
set_option linter.unusedSimpArgs false
namespace Go.Lay
open Go Go.RowKit
def bw (p A B : Prop) : Prop := both p A B
def wg (g : Option Prop) (A B : Prop) : Prop := match g with
  | some p => bw (nx p) A B
  | none => False
def wgo (r : Option (Value × AH)) (P : Program) (ops : List Oper) (Q : Exit → AS → AH → Prop) (rest : List Oper) (o : Oper) (s : AS) (α : AH) : Prop :=
  match r with
  | some (v, α') => wops P ops Q rest (putA s o.dst v) α'
  | none => NPure P o s α (contK (wops P ops Q rest) s o.dst)
def wcall (f : Value) (P : Program) (args : List Value) (α : AH) (K : Value → AH → Prop) : Prop := match f with
  | .func (.func g) first captured => NCalls P g (first.toList ++ args ++ captured.toList) α K
  | _ => False
theorem both_congr {p A A' B B' : Prop} (h1 : p → A = A') (h2 : ¬p → B = B') : both p A B = both p A' B' :=
  propext ⟨fun h => ⟨fun x => h1 x ▸ h.y x, fun x => h2 x ▸ h.n x⟩, fun h => ⟨fun x => (h1 x).symm ▸ h.y x, fun x => (h2 x).symm ▸ h.n x⟩⟩
theorem bw_congr {p p' A B : Prop} (h : p = p') : bw p A B = bw p' A B := by rw [h]
theorem wg_congr {g g' : Option Prop} {A B : Prop} (h : g = g') : wg g A B = wg g' A B := by rw [h]
theorem wc_congr {v v' : Value} {A B : Prop} (h : v = v') : wc v A B = wc v' A B := by rw [h]
theorem wgo_congr {r r' : Option (Value × AH)} {P : Program} {ops : List Oper} {Q : Exit → AS → AH → Prop} {rest : List Oper} {o : Oper} {s : AS} {α : AH} (h : r = r') : wgo r P ops Q rest o s α = wgo r' P ops Q rest o s α := by rw [h]
theorem wcall_congr {f f' : Value} {P : Program} {args args' : List Value} {α : AH} {K : Value → AH → Prop} (h : f = f') (h2 : args = args') : wcall f P args α K = wcall f' P args' α K := by rw [h, h2]
attribute [congr] both_congr bw_congr wg_congr wc_congr wgo_congr wcall_congr
section
variable {P : Program} {ops r : List Oper} {Q : Exit → AS → AH → Prop} {s : AS} {α α' : AH} {d : Option Nat} {ty : TypeId} {ps : String} {af : Array Edge} {A B p : Prop}
@[simp] theorem bw_true : bw True A B = A := propext ⟨fun h => h.y trivial, fun h => ⟨fun _ => h, fun x => absurd trivial x⟩⟩
@[simp] theorem bw_false : bw False A B = B := propext ⟨fun h => h.n id, fun h => ⟨False.elim, fun _ => h⟩⟩
@[simp] theorem bw_not : bw (¬p) A B = bw (nx p) B A := propext ⟨fun h => ⟨fun x => h.n (fun c => c x), fun x => h.y x⟩, fun h => ⟨fun x => h.n x, fun x => (Classical.em p).elim h.y fun c => absurd c x⟩⟩
@[simp low] theorem bw_both : bw p A B = both p A B := rfl
@[simp] theorem both_true : both True A B = A := bw_true
@[simp] theorem both_false : both False A B = B := bw_false
@[simp] theorem both_tt : both p True True = True := propext ⟨fun _ => trivial, fun _ => ⟨fun _ => trivial, fun _ => trivial⟩⟩
@[simp] theorem wg_some : wg (some p) A B = bw (nx p) A B := rfl
@[simp] theorem wc_bool (b : Bool) : wc (.bool b) A B = bw (nx (b = true)) A B := rfl
@[simp] theorem gvl_bool (b w : Bool) : gvl (.bool b) w = some (b = w) := rfl
@[simp] theorem gvl_undef (w : Bool) (a : Array Value) : gvl (.tuple a) w = some False := rfl
@[simp] theorem gts_zero (t : Nat) (op : Op) (g : Option (Nat × Bool)) : gts (⟨some t, op, ty, ps, af, g⟩ :: r) 0 s = s t := rfl
@[simp] theorem gts_succ (o : Oper) (n : Nat) : gts (o :: r) (n + 1) s = gts r n s := rfl
@[simp] theorem nth_zero (o : Oper) : nth (o :: r) 0 = some o := rfl
@[simp] theorem nth_succ (o : Oper) (n : Nat) : nth (o :: r) (n + 1) = nth r n := rfl
@[simp] theorem wgo_some (v : Value) (t : Nat) (op : Op) (g : Option (Nat × Bool)) : wgo (some (v, α')) P ops Q r ⟨some t, op, ty, ps, af, g⟩ s α = wops (nx P) ops Q r (upd s t v) α' := rfl
@[simp] theorem wgo_somen (v : Value) (op : Op) (g : Option (Nat × Bool)) : wgo (some (v, α')) P ops Q r ⟨none, op, ty, ps, af, g⟩ s α = wops (nx P) ops Q r s α' := rfl
@[simp] theorem wcall_f (g : FuncId) (K : Value → AH → Prop) (args : List Value) : wcall (.func (.func g) #[] #[]) P args α K = NCalls P g args α K := by simp [wcall]
@[simp] theorem ws_nil : wops P ops Q [] s α = Q .normal s α := rfl
@[simp] theorem ws_guard (t : Nat) (op : Op) (j : Nat) (w : Bool) : wops P ops Q (⟨some t, op, ty, ps, af, some (j, w)⟩ :: r) s α = wg (nx (gvl (gts ops j s) w)) (wops (nx P) ops Q (⟨some t, op, ty, ps, af, none⟩ :: r) s α) (wops (nx P) ops Q r (upd s t undef) α) := by
  simp only [wops, wgd]
  unfold nx
  cases gvl (gts ops j s) w with
  | none => simp [wg]
  | some p => simp only [Option.some.injEq]; exact propext ⟨fun ⟨_, h, k⟩ => by subst h; exact k, fun h => ⟨_, rfl, h⟩⟩
@[simp] theorem ws_guardn (op : Op) (j : Nat) (w : Bool) : wops P ops Q (⟨none, op, ty, ps, af, some (j, w)⟩ :: r) s α = wg (nx (gvl (gts ops j s) w)) (wops (nx P) ops Q (⟨none, op, ty, ps, af, none⟩ :: r) s α) (wops (nx P) ops Q r s α) := by
  simp only [wops, wgd]
  unfold nx
  cases gvl (gts ops j s) w with
  | none => simp [wg]
  | some p => simp only [Option.some.injEq]; exact propext ⟨fun ⟨_, h, k⟩ => by subst h; exact k, fun h => ⟨_, rfl, h⟩⟩
@[simp] theorem ws_move (t : Nat) (x : Operand) : wops P ops Q (⟨some t, .move x, ty, ps, af, none⟩ :: r) s α = wops (nx P) ops Q r (upd s t (ev s x)) α := rfl
@[simp] theorem ws_assign (t : Nat) (x : Operand) : wops P ops Q (⟨some t, .assign x, ty, ps, af, none⟩ :: r) s α = wops (nx P) ops Q r (upd s t (ev s x)) α := rfl
@[simp] theorem ws_pick (c a b : Operand) : wops P ops Q (⟨d, .pick c a b, ty, ps, af, none⟩ :: r) s α = wgo (nx (keep α (apick (ev s c) (ev s a) (ev s b)))) P ops Q r ⟨d, .pick c a b, ty, ps, af, none⟩ s α := rfl
@[simp] theorem ws_alloc (e : TypeId) : wops P ops Q (⟨d, .alloc e, ty, ps, af, none⟩ :: r) s α = wgo (nx (aalloc P e α)) P ops Q r ⟨d, .alloc e, ty, ps, af, none⟩ s α := rfl
@[simp] theorem ws_box (e : TypeId) (x : Operand) : wops P ops Q (⟨d, .box e x, ty, ps, af, none⟩ :: r) s α = wgo (nx (abox e (ev s x) α)) P ops Q r ⟨d, .box e x, ty, ps, af, none⟩ s α := rfl
@[simp] theorem ws_build (t : TypeId) (l : List (Nat × Operand)) : wops P ops Q (⟨d, .build t l.toArray, ty, ps, af, none⟩ :: r) s α = wgo (nx (keep α (abuild P t (l.map fun p => (p.1, ev s p.2))))) P ops Q r ⟨d, .build t l.toArray, ty, ps, af, none⟩ s α := rfl
@[simp] theorem ws_buildSlice (t : TypeId) (n : Nat) (l : List (Nat × Operand)) : wops P ops Q (⟨d, .buildSlice t n l.toArray, ty, ps, af, none⟩ :: r) s α = wgo (nx (abuildSlice P t n (l.map fun p => (p.1, ev s p.2)) α)) P ops Q r ⟨d, .buildSlice t n l.toArray, ty, ps, af, none⟩ s α := rfl
@[simp] theorem ws_load (t : TypeId) (x : Operand) : wops P ops Q (⟨d, .load t x, ty, ps, af, none⟩ :: r) s α = wgo (nx (keep α (aload P t (ev s x) α))) P ops Q r ⟨d, .load t x, ty, ps, af, none⟩ s α := rfl
@[simp] theorem ws_store (t : TypeId) (x y : Operand) : wops P ops Q (⟨d, .store t x y, ty, ps, af, none⟩ :: r) s α = wgo (nx ((astore P t (ev s x) (ev s y) α).map fun α' => (undef, α'))) P ops Q r ⟨d, .store t x y, ty, ps, af, none⟩ s α := rfl
@[simp] theorem ws_nilCheck (x : Operand) : wops P ops Q (⟨d, .nilCheck x, ty, ps, af, none⟩ :: r) s α = wgo (nx (keep α (anilCheck (ev s x)))) P ops Q r ⟨d, .nilCheck x, ty, ps, af, none⟩ s α := rfl
@[simp] theorem ws_binOp (op : BinOp) (t : TypeId) (x y : Operand) (yt : TypeId) : wops P ops Q (⟨d, .binOp op t x y yt, ty, ps, af, none⟩ :: r) s α = wgo (nx (keep α (abin P op t (cstA x y) (ev s x) (ev s y)))) P ops Q r ⟨d, .binOp op t x y yt, ty, ps, af, none⟩ s α := rfl
@[simp] theorem ws_unOp (op : UnOp) (t : TypeId) (x : Operand) : wops P ops Q (⟨d, .unOp op t x, ty, ps, af, none⟩ :: r) s α = wgo (nx (keep α (aun op (ev s x)))) P ops Q r ⟨d, .unOp op t x, ty, ps, af, none⟩ s α := rfl
@[simp] theorem ws_convert (t u : TypeId) (x : Operand) : wops P ops Q (⟨d, .convert t u x, ty, ps, af, none⟩ :: r) s α = wgo (nx (keep α (aconv P t u (ev s x)))) P ops Q r ⟨d, .convert t u x, ty, ps, af, none⟩ s α := rfl
@[simp] theorem ws_makeInterface (t : TypeId) (x : Operand) : wops P ops Q (⟨d, .makeInterface t x, ty, ps, af, none⟩ :: r) s α = wgo (nx (keep α (aiface P t (ev s x)))) P ops Q r ⟨d, .makeInterface t x, ty, ps, af, none⟩ s α := rfl
@[simp] theorem ws_makeFunc (fn : Fn) (f c : List Operand) : wops P ops Q (⟨d, .makeFunc fn f.toArray c.toArray, ty, ps, af, none⟩ :: r) s α = wgo (nx (some (.func fn (f.map (ev s)).toArray (c.map (ev s)).toArray, α))) P ops Q r ⟨d, .makeFunc fn f.toArray c.toArray, ty, ps, af, none⟩ s α := by
  simp [wops, wgd, wdo, wgo, aop, nx]
@[simp] theorem ws_makeSlice (t : TypeId) (l c : Operand) : wops P ops Q (⟨d, .makeSlice t l c, ty, ps, af, none⟩ :: r) s α = wgo (nx (amake P t (ev s l) (ev s c) α)) P ops Q r ⟨d, .makeSlice t l c, ty, ps, af, none⟩ s α := rfl
@[simp] theorem ws_slice (t : TypeId) (x : Operand) (lo hi mx : Option Operand) : wops P ops Q (⟨d, .slice t x lo hi mx, ty, ps, af, none⟩ :: r) s α = wgo (nx (keep α (aslice P t (ev s x) (lo.map (ev s)) (hi.map (ev s)) (mx.map (ev s)) α))) P ops Q r ⟨d, .slice t x lo hi mx, ty, ps, af, none⟩ s α := rfl
@[simp] theorem ws_fieldAddr (t : TypeId) (x : Operand) (f : Nat) : wops P ops Q (⟨d, .fieldAddr t x f, ty, ps, af, none⟩ :: r) s α = wgo (nx (keep α (afieldAddr P t (ev s x) f))) P ops Q r ⟨d, .fieldAddr t x f, ty, ps, af, none⟩ s α := rfl
@[simp] theorem ws_field (t : TypeId) (x : Operand) (f : Nat) : wops P ops Q (⟨d, .field t x f, ty, ps, af, none⟩ :: r) s α = wgo (nx (keep α (afield P t (ev s x) f))) P ops Q r ⟨d, .field t x f, ty, ps, af, none⟩ s α := rfl
@[simp] theorem ws_indexAddr (t : TypeId) (x i : Operand) : wops P ops Q (⟨d, .indexAddr t x i, ty, ps, af, none⟩ :: r) s α = wgo (nx (keep α (aindexAddr P t (ev s x) (ev s i)))) P ops Q r ⟨d, .indexAddr t x i, ty, ps, af, none⟩ s α := rfl
@[simp] theorem ws_index (t : TypeId) (x i : Operand) : wops P ops Q (⟨d, .index t x i, ty, ps, af, none⟩ :: r) s α = wgo (nx (keep α (aindex P t (ev s x) (ev s i)))) P ops Q r ⟨d, .index t x i, ty, ps, af, none⟩ s α := rfl
@[simp] theorem ws_extract (x : Operand) (i : Nat) : wops P ops Q (⟨d, .extract x i, ty, ps, af, none⟩ :: r) s α = wgo (nx (keep α (aextract (ev s x) i))) P ops Q r ⟨d, .extract x i, ty, ps, af, none⟩ s α := rfl
@[simp] theorem ws_builtin (b : Builtin) (l : List Operand) (ts : Array TypeId) : wops P ops Q (⟨d, .call ⟨.builtin b, l.toArray, ts⟩, ty, ps, af, none⟩ :: r) s α = wgo (nx (abuiltin P b ts (l.map (ev s)) α)) P ops Q r ⟨d, .call ⟨.builtin b, l.toArray, ts⟩, ty, ps, af, none⟩ s α := rfl
@[simp] theorem ws_call (f : Operand) (l : List Operand) (ts : Array TypeId) : wops P ops Q (⟨d, .call ⟨.value f, l.toArray, ts⟩, ty, ps, af, none⟩ :: r) s α = wcall (nx (ev s f)) P (l.map (ev s)) α (contK (wops (nx P) ops Q r) s d) := rfl
@[simp] theorem ws_invoke (x : Operand) (n : String) (l : List Operand) (ts : Array TypeId) : wops P ops Q (⟨d, .call ⟨.invoke x n, l.toArray, ts⟩, ty, ps, af, none⟩ :: r) s α = NInvoke P (ev s x) n (l.map (ev s)) α (contK (wops (nx P) ops Q r) s d) := rfl
variable {m : Bool}
@[simp] theorem wk_skip : wk m P .skip Q s α = Q .normal s α := rfl
@[simp] theorem wk_exit (i : Nat) : wk m P (.exit i) Q s α = Q (.exit i) s α := rfl
@[simp] theorem wk_ret : wk m P .ret Q s α = Q .ret s α := rfl
@[simp] theorem wk_seq (x y : Code) : wk m P (.seq x y) Q s α = wk m (nx P) x (nthen (wk m (nx P) y Q) Q) s α := by simp only [wk]; rfl
@[simp] theorem wk_cond (c : Operand) (x y : Code) : wk m P (.cond c x y) Q s α = wc (nx (ev s c)) (wk m (nx P) x Q s α) (wk m (nx P) y Q s α) := by simp only [wk]; rfl
@[simp] theorem wk_block (i : Nat) (c : Code) : wk m P (.block i c) Q s α = wk m (nx P) c (nblock i Q) s α := by simp only [wk]; rfl
@[simp] theorem wk_region (i : Nat) (l : List Oper) : wk false P (.region i l.toArray false) Q s α = wops (nx P) l Q l s α := by simp [wk, nx]
@[simp] theorem wk_regionE (i : Nat) (l : List Oper) : wk true P (.region i l.toArray false) Q s α = wE (nx P) l Q l [] s α := by simp [wk, nx]
@[simp] theorem over_eq' (V : List Nat) (lo hi : Nat) (t : AS) (k : Nat) : over V lo hi t s k = if lo ≤ k ∧ k ≤ hi then t k else if k ∈ V then t k else s k := rfl
end
/-! ### guards not known: what is guarded is reckoned ahead -/
def okp (x : Option (Prop × Value)) (g : Prop) : Prop := match x with
  | some (p, _) => g → p
  | none => True
def mxv (x : Option (Prop × Value)) (v : Value) : Value := match x with
  | some (_, u) => u
  | none => v
def gv2 (x : Option (Prop × Value)) (v : Value) (w : Bool) : Option Prop := match x with
  | some (p, .bool b) => some (p ∧ b = w)
  | some _ => none
  | none => gvl v w
def gvo (x : Option Nat) (E : Env) (s : AS) (w : Bool) : Option Prop := match x with
  | some t => gvE E s t w
  | none => none
def okc (v : Value) (f : Bool → Prop) : Prop := match v with
  | .bool b => f b
  | _ => False
noncomputable def wEd (g : Prop) (P : Program) (ops : List Oper) (Q : Exit → AS → AH → Prop) (o : Oper) (r : List Oper) (E : Env) (s : AS) (α : AH) : Prop := match o.dst with
  | none => bo g (wdo P o (wE P ops Q r E) s α) (wE P ops Q r E s α)
  | some d => elk E d = none ∧ if calmO o.op = true then ∃ v, wEval P E g o.op s α v ∧ wE P ops Q r (pE o.guard d g v E) (upd s d (vE o.guard g v)) α
    else bo g (wdo P o (wE P ops Q r E) s α) (wE P ops Q r E (upd s d undef) α)
noncomputable def wEg (x : Option Prop) (P : Program) (ops : List Oper) (Q : Exit → AS → AH → Prop) (o : Oper) (r : List Oper) (E : Env) (s : AS) (α : AH) : Prop := match x with
  | some g => wEd g P ops Q o r E s α
  | none => False
noncomputable def wEv (rv : Option (Value × AH)) (c : Prop) (g : Prop) (P : Program) (ops : List Oper) (Q : Exit → AS → AH → Prop) (d : Nat) (gd : Option (Nat × Bool)) (r : List Oper) (E : Env) (s : AS) (α : AH) : Prop :=
  c ∧ ∃ v, rv = some (v, α) ∧ wE P ops Q r (pE gd d g v E) (upd s d (vE gd g v)) α
def wEb (c g A B : Prop) : Prop := c ∧ bo g A B
noncomputable def wEa (rv : Option (Value × AH)) (P : Program) (ops : List Oper) (Q : Exit → AS → AH → Prop) (r : List Oper) (E : Env) (o : Oper) (s : AS) (α : AH) : Prop := match rv with
  | some (v, α') => wE P ops Q r E (putA s o.dst v) α'
  | none => NPure P o s α (contK (wE P ops Q r E) s o.dst)
section
variable {P : Program} {ops r : List Oper} {Q : Exit → AS → AH → Prop} {E : Env} {s : AS} {α : AH} {o : Oper} {g : Prop} {d : Nat} {gd : Option (Nat × Bool)}
theorem wE_congr {P' : Program} {l : List Oper} (h : P = P') : wE P ops Q l E s α = wE P' ops Q l E s α := by rw [h]
theorem wEg_congr {x x' : Option Prop} (h : x = x') : wEg x P ops Q o r E s α = wEg x' P ops Q o r E s α := by rw [h]
theorem wEd_congr {g' : Prop} (h : g = g') : wEd g P ops Q o r E s α = wEd g' P ops Q o r E s α := by rw [h]
theorem wEv_congr {rv rv' : Option (Value × AH)} {c c' : Prop} (h : rv = rv') (h2 : c = c') : wEv rv c g P ops Q d gd r E s α = wEv rv' c' g P ops Q d gd r E s α := by rw [h, h2]
theorem wEb_congr {c c' A B : Prop} (h : c = c') : wEb c g A B = wEb c' g A B := by rw [h]
theorem wEa_congr {rv rv' : Option (Value × AH)} (h : rv = rv') : wEa rv P ops Q r E o s α = wEa rv' P ops Q r E o s α := by rw [h]
theorem okp_congr {x x' : Option (Prop × Value)} (h : x = x') : okp x g = okp x' g := by rw [h]
theorem mxv_congr {x x' : Option (Prop × Value)} {v : Value} (h : x = x') : mxv x v = mxv x' v := by rw [h]
theorem gv2_congr {x x' : Option (Prop × Value)} {v : Value} {w : Bool} (h : x = x') : gv2 x v w = gv2 x' v w := by rw [h]
theorem gvo_congr {x x' : Option Nat} {w : Bool} (h : x = x') : gvo x E s w = gvo x' E s w := by rw [h]
theorem okc_congr {v v' : Value} {f : Bool → Prop} (h : v = v') : okc v f = okc v' f := by rw [h]
end
attribute [congr] wE_congr wEg_congr wEv_congr wEb_congr wEa_congr okp_congr mxv_congr gv2_congr gvo_congr okc_congr
section
variable {P : Program} {ops r : List Oper} {Q : Exit → AS → AH → Prop} {E : Env} {s : AS} {α α' : AH} {g A B p : Prop} {d : Nat} {gd : Option (Nat × Bool)} {ty : TypeId} {ps : String} {af : Array Edge} {v u : Value} {w : Bool}
@[simp] theorem elk_nil (t : Nat) : elk [] t = none := rfl
@[simp] theorem elk_cons (t : Nat) : elk ((d, p, v) :: E) t = if t = d then some (p, v) else elk E t := rfl
@[simp] theorem okp_none : okp none g = True := rfl
@[simp] theorem okp_some : okp (some (p, v)) g = (g → p) := rfl
@[simp] theorem okx_tmp (t : Nat) : okx E g (.tmp t) = okp (nx (elk E t)) g := by simp only [okx, nx]; cases elk E t <;> rfl
@[simp] theorem okx_const (v : Value) : okx E g (.const v) = True := rfl
@[simp] theorem okx_func (f : FuncId) : okx E g (.func f) = True := rfl
@[simp] theorem okx_global (f : Nat) : okx E g (.global f) = True := rfl
@[simp] theorem okl_nil : okl E g [] = True := rfl
@[simp] theorem okl_cons (x : Operand) (l : List Operand) : okl E g (x :: l) = (okx E g x ∧ okl E g l) := rfl
@[simp] theorem mix_eq (t : Nat) : mix E s t = mxv (nx (elk E t)) (s t) := by simp only [mix, nx]; cases elk E t <;> rfl
@[simp] theorem mxv_none : mxv none v = v := rfl
@[simp] theorem mxv_some : mxv (some (p, u)) v = u := rfl
@[simp] theorem sl_true : sl True v = v := if_pos trivial
@[simp] theorem sl_false : sl False v = undef := if_neg id
@[simp] theorem gv2_none : gv2 none v w = gvl v w := rfl
@[simp] theorem gv2_some (b : Bool) : gv2 (some (p, .bool b)) v w = some (p ∧ b = w) := rfl
theorem gvE_eq (t : Nat) : gvE E s t w = gv2 (nx (elk E t)) (s t) w := by
  simp only [gvE, nx]
  cases elk E t with
  | none => rfl
  | some x => obtain ⟨p, v⟩ := x; cases v <;> rfl
@[simp] theorem gvo_some (t : Nat) : gvo (some t) E s w = gv2 (nx (elk E t)) (s t) w := gvE_eq t
@[simp] theorem gtn_zero (t : Nat) (op : Op) (g : Option (Nat × Bool)) : gtn (⟨some t, op, ty, ps, af, g⟩ :: r) 0 = some t := rfl
@[simp] theorem gtn_succ (o : Oper) (n : Nat) : gtn (o :: r) (n + 1) = gtn r n := rfl
@[simp] theorem okc_bool (b : Bool) (f : Bool → Prop) : okc (.bool b) f = f b := rfl
@[simp] theorem wE_nil : wE P ops Q [] E s α = Q .normal s α := rfl
@[simp] theorem wE_plain (x : Option Nat) (op : Op) : wE P ops Q (⟨x, op, ty, ps, af, none⟩ :: r) E s α = wEd True P ops Q ⟨x, op, ty, ps, af, none⟩ r E s α := by
  simp only [wE, gdE, Option.some.injEq]
  exact propext ⟨fun ⟨_, h, k⟩ => by subst h; exact k, fun h => ⟨_, rfl, h⟩⟩
@[simp] theorem wE_guard (x : Option Nat) (op : Op) (j : Nat) : wE P ops Q (⟨x, op, ty, ps, af, some (j, w)⟩ :: r) E s α = wEg (nx (gvo (nx (gtn ops j)) E s w)) P ops Q ⟨x, op, ty, ps, af, some (j, w)⟩ r E s α := by
  simp only [wE, gdE, nx]
  cases gtn ops j with
  | none => simp [gvo, wEg]
  | some t =>
    simp only [gvo]
    cases gvE E s t w with
    | none => simp [wEg]
    | some g => simp only [Option.some.injEq]; exact propext ⟨fun ⟨_, h, k⟩ => by subst h; exact k, fun h => ⟨_, rfl, h⟩⟩
@[simp] theorem wEg_some (o : Oper) : wEg (some g) P ops Q o r E s α = wEd g P ops Q o r E s α := rfl
@[simp] theorem wEv_plain : wEv (some (v, α)) True g P ops Q d none r E s α = wE (nx P) ops Q r E (upd s d v) α := by simp [wEv, pE, vE, nx]
@[simp] theorem wEv_guard (jw : Nat × Bool) : wEv (some (v, α)) True g P ops Q d (some jw) r E s α = wE (nx P) ops Q r ((d, g, v) :: E) (upd s d (sl g v)) α := by simp [wEv, pE, vE, nx]
@[simp] theorem wEb_true : wEb True g A B = bw (nx g) A B := by simp [wEb, bo, bw, nx]
@[simp] theorem wEa_some (op : Op) : wEa (some (v, α')) P ops Q r E ⟨some d, op, ty, ps, af, gd⟩ s α = wE (nx P) ops Q r E (upd s d v) α' := rfl
@[simp] theorem wEa_somen (op : Op) : wEa (some (v, α')) P ops Q r E ⟨none, op, ty, ps, af, gd⟩ s α = wE (nx P) ops Q r E s α' := rfl
theorem wEd_calm {op : Op} (hc : calmO op = true) {rv : Option (Value × AH)} {okk : Prop} (h : ∀ v, wEval P E g op s α v = (okk ∧ rv = some (v, α))) (_ : True = True) : wEd g P ops Q ⟨some d, op, ty, ps, af, gd⟩ r E s α = wEv (nx rv) (nx (elk E d = none ∧ okk)) g P ops Q d gd r E s α := by
  simp only [wEd, hc, if_true, h, wEv, nx]
  exact propext ⟨fun ⟨h1, v, ⟨h2, h3⟩, h4⟩ => ⟨⟨h1, h2⟩, v, h3, h4⟩, fun ⟨⟨h1, h2⟩, v, h3, h4⟩ => ⟨h1, v, ⟨h2, h3⟩, h4⟩⟩
@[simp] theorem we_move (x : Operand) : wEd g P ops Q ⟨some d, .move x, ty, ps, af, gd⟩ r E s α = wEv (nx (some (ev (mix E s) x, α))) (nx (elk E d = none ∧ okl E g [x])) g P ops Q d gd r E s α := wEd_calm rfl (fun _ => by simp [wEval, aop, Op.operands]) rfl
@[simp] theorem we_assign (x : Operand) : wEd g P ops Q ⟨some d, .assign x, ty, ps, af, gd⟩ r E s α = wEv (nx (some (ev (mix E s) x, α))) (nx (elk E d = none ∧ okl E g [x])) g P ops Q d gd r E s α := wEd_calm rfl (fun _ => by simp [wEval, aop, Op.operands]) rfl
@[simp] theorem we_build (t : TypeId) (l : List (Nat × Operand)) : wEd g P ops Q ⟨some d, .build t l.toArray, ty, ps, af, gd⟩ r E s α = wEv (nx (keep α (abuild P t (l.map fun p => (p.1, ev (mix E s) p.2))))) (nx (elk E d = none ∧ okl E g (l.map (·.2)))) g P ops Q d gd r E s α := wEd_calm rfl (fun _ => by simp [wEval, aop, Op.operands]) rfl
@[simp] theorem we_nilCheck (x : Operand) : wEd g P ops Q ⟨some d, .nilCheck x, ty, ps, af, gd⟩ r E s α = wEv (nx (keep α (anilCheck (ev (mix E s) x)))) (nx (elk E d = none ∧ okl E g [x])) g P ops Q d gd r E s α := wEd_calm rfl (fun _ => by simp [wEval, aop, Op.operands]) rfl
@[simp] theorem we_binOp (op : BinOp) (t : TypeId) (x y : Operand) (u : TypeId) : wEd g P ops Q ⟨some d, .binOp op t x y u, ty, ps, af, gd⟩ r E s α = wEv (nx (keep α (abin P op t (cstA x y) (ev (mix E s) x) (ev (mix E s) y)))) (nx (elk E d = none ∧ okl E g [x, y])) g P ops Q d gd r E s α := wEd_calm rfl (fun _ => by simp [wEval, aop, Op.operands]) rfl
@[simp] theorem we_unOp (op : UnOp) (t : TypeId) (x : Operand) : wEd g P ops Q ⟨some d, .unOp op t x, ty, ps, af, gd⟩ r E s α = wEv (nx (keep α (aun op (ev (mix E s) x)))) (nx (elk E d = none ∧ okl E g [x])) g P ops Q d gd r E s α := wEd_calm rfl (fun _ => by simp [wEval, aop, Op.operands]) rfl
@[simp] theorem we_convert (t u : TypeId) (x : Operand) : wEd g P ops Q ⟨some d, .convert t u x, ty, ps, af, gd⟩ r E s α = wEv (nx (keep α (aconv P t u (ev (mix E s) x)))) (nx (elk E d = none ∧ okl E g [x])) g P ops Q d gd r E s α := wEd_calm rfl (fun _ => by simp [wEval, aop, Op.operands]) rfl
@[simp] theorem we_makeInterface (t : TypeId) (x : Operand) : wEd g P ops Q ⟨some d, .makeInterface t x, ty, ps, af, gd⟩ r E s α = wEv (nx (keep α (aiface P t (ev (mix E s) x)))) (nx (elk E d = none ∧ okl E g [x])) g P ops Q d gd r E s α := wEd_calm rfl (fun _ => by simp [wEval, aop, Op.operands]) rfl
@[simp] theorem we_fieldAddr (t : TypeId) (x : Operand) (f : Nat) : wEd g P ops Q ⟨some d, .fieldAddr t x f, ty, ps, af, gd⟩ r E s α = wEv (nx (keep α (afieldAddr P t (ev (mix E s) x) f))) (nx (elk E d = none ∧ okl E g [x])) g P ops Q d gd r E s α := wEd_calm rfl (fun _ => by simp [wEval, aop, Op.operands]) rfl
@[simp] theorem we_field (t : TypeId) (x : Operand) (f : Nat) : wEd g P ops Q ⟨some d, .field t x f, ty, ps, af, gd⟩ r E s α = wEv (nx (keep α (afield P t (ev (mix E s) x) f))) (nx (elk E d = none ∧ okl E g [x])) g P ops Q d gd r E s α := wEd_calm rfl (fun _ => by simp [wEval, aop, Op.operands]) rfl
@[simp] theorem we_indexAddr (t : TypeId) (x i : Operand) : wEd g P ops Q ⟨some d, .indexAddr t x i, ty, ps, af, gd⟩ r E s α = wEv (nx (keep α (aindexAddr P t (ev (mix E s) x) (ev (mix E s) i)))) (nx (elk E d = none ∧ okl E g [x, i])) g P ops Q d gd r E s α := wEd_calm rfl (fun _ => by simp [wEval, aop, Op.operands]) rfl
@[simp] theorem we_index (t : TypeId) (x i : Operand) : wEd g P ops Q ⟨some d, .index t x i, ty, ps, af, gd⟩ r E s α = wEv (nx (keep α (aindex P t (ev (mix E s) x) (ev (mix E s) i)))) (nx (elk E d = none ∧ okl E g [x, i])) g P ops Q d gd r E s α := wEd_calm rfl (fun _ => by simp [wEval, aop, Op.operands]) rfl
@[simp] theorem we_extract (x : Operand) (i : Nat) : wEd g P ops Q ⟨some d, .extract x i, ty, ps, af, gd⟩ r E s α = wEv (nx (keep α (aextract (ev (mix E s) x) i))) (nx (elk E d = none ∧ okl E g [x])) g P ops Q d gd r E s α := wEd_calm rfl (fun _ => by simp [wEval, aop, Op.operands]) rfl
@[simp] theorem we_load (t : TypeId) (x : Operand) : wEd g P ops Q ⟨some d, .load t x, ty, ps, af, gd⟩ r E s α = wEv (nx (keep α (aload P t (ev (mix E s) x) α))) (nx (elk E d = none ∧ okl E g [x])) g P ops Q d gd r E s α := wEd_calm rfl (fun _ => by simp [wEval, aop, Op.operands]) rfl
@[simp] theorem we_slice (t : TypeId) (x : Operand) (lo hi mx : Option Operand) : wEd g P ops Q ⟨some d, .slice t x lo hi mx, ty, ps, af, gd⟩ r E s α = wEv (nx (keep α (aslice P t (ev (mix E s) x) (lo.map (ev (mix E s))) (hi.map (ev (mix E s))) (mx.map (ev (mix E s))) α))) (nx (elk E d = none ∧ okl E g ([x] ++ lo.toList ++ hi.toList ++ mx.toList))) g P ops Q d gd r E s α := wEd_calm rfl (fun _ => by simp [wEval, aop, Op.operands]) rfl
@[simp] theorem we_len (l : List Operand) (ts : Array TypeId) : wEd g P ops Q ⟨some d, .call ⟨.builtin .len, l.toArray, ts⟩, ty, ps, af, gd⟩ r E s α = wEv (nx (abuiltin P .len ts (l.map (ev (mix E s))) α)) (nx (elk E d = none ∧ okl E g l)) g P ops Q d gd r E s α := wEd_calm rfl (fun _ => by simp [wEval, aop, Op.operands, Call.operands]) rfl
@[simp] theorem we_max (l : List Operand) (ts : Array TypeId) : wEd g P ops Q ⟨some d, .call ⟨.builtin .max, l.toArray, ts⟩, ty, ps, af, gd⟩ r E s α = wEv (nx (abuiltin P .max ts (l.map (ev (mix E s))) α)) (nx (elk E d = none ∧ okl E g l)) g P ops Q d gd r E s α := wEd_calm rfl (fun _ => by simp [wEval, aop, Op.operands, Call.operands]) rfl
@[simp] theorem we_min (l : List Operand) (ts : Array TypeId) : wEd g P ops Q ⟨some d, .call ⟨.builtin .min, l.toArray, ts⟩, ty, ps, af, gd⟩ r E s α = wEv (nx (abuiltin P .min ts (l.map (ev (mix E s))) α)) (nx (elk E d = none ∧ okl E g l)) g P ops Q d gd r E s α := wEd_calm rfl (fun _ => by simp [wEval, aop, Op.operands, Call.operands]) rfl
@[simp] theorem we_pick (c a b : Operand) : wEd g P ops Q ⟨some d, .pick c a b, ty, ps, af, gd⟩ r E s α = wEv (nx (keep α (apick (ev (mix E s) c) (ev (mix E s) a) (ev (mix E s) b)))) (nx (elk E d = none ∧ okx E g c ∧ okc (nx (ev (mix E s) c)) fun cv => okx E (g ∧ cv = true) a ∧ okx E (g ∧ cv = false) b)) g P ops Q d gd r E s α :=
  wEd_calm rfl (fun v => by
    simp only [wEval, nx]
    cases ev (mix E s) c <;> simp [okc, keep, apick]
    exact ⟨fun ⟨h1, h2, h3, h4⟩ => ⟨⟨h1, h2, h3⟩, h4⟩, fun ⟨⟨h1, h2, h3⟩, h4⟩ => ⟨h1, h2, h3, h4⟩⟩) rfl
@[simp] theorem we_alloc (e : TypeId) : wEd g P ops Q ⟨some d, .alloc e, ty, ps, af, gd⟩ r E s α = wEb (nx (elk E d = none)) g (wEa (nx (aalloc P e α)) P ops Q r E ⟨some d, .alloc e, ty, ps, af, gd⟩ s α) (wE (nx P) ops Q r E (upd s d undef) α) := rfl
@[simp] theorem we_box (e : TypeId) (x : Operand) : wEd g P ops Q ⟨some d, .box e x, ty, ps, af, gd⟩ r E s α = wEb (nx (elk E d = none)) g (wEa (nx (abox e (ev s x) α)) P ops Q r E ⟨some d, .box e x, ty, ps, af, gd⟩ s α) (wE (nx P) ops Q r E (upd s d undef) α) := rfl
@[simp] theorem we_buildSlice (t : TypeId) (n : Nat) (l : List (Nat × Operand)) : wEd g P ops Q ⟨some d, .buildSlice t n l.toArray, ty, ps, af, gd⟩ r E s α = wEb (nx (elk E d = none)) g (wEa (nx (abuildSlice P t n (l.map fun p => (p.1, ev s p.2)) α)) P ops Q r E ⟨some d, .buildSlice t n l.toArray, ty, ps, af, gd⟩ s α) (wE (nx P) ops Q r E (upd s d undef) α) := rfl
@[simp] theorem we_makeSlice (t : TypeId) (l c : Operand) : wEd g P ops Q ⟨some d, .makeSlice t l c, ty, ps, af, gd⟩ r E s α = wEb (nx (elk E d = none)) g (wEa (nx (amake P t (ev s l) (ev s c) α)) P ops Q r E ⟨some d, .makeSlice t l c, ty, ps, af, gd⟩ s α) (wE (nx P) ops Q r E (upd s d undef) α) := rfl
@[simp] theorem we_append (l : List Operand) (ts : Array TypeId) : wEd g P ops Q ⟨some d, .call ⟨.builtin .append, l.toArray, ts⟩, ty, ps, af, gd⟩ r E s α = wEb (nx (elk E d = none)) g (wEa (nx (abuiltin P .append ts (l.map (ev s)) α)) P ops Q r E ⟨some d, .call ⟨.builtin .append, l.toArray, ts⟩, ty, ps, af, gd⟩ s α) (wE (nx P) ops Q r E (upd s d undef) α) := rfl
@[simp] theorem we_copy (l : List Operand) (ts : Array TypeId) : wEd g P ops Q ⟨some d, .call ⟨.builtin .copy, l.toArray, ts⟩, ty, ps, af, gd⟩ r E s α = wEb (nx (elk E d = none)) g (wEa (nx (abuiltin P .copy ts (l.map (ev s)) α)) P ops Q r E ⟨some d, .call ⟨.builtin .copy, l.toArray, ts⟩, ty, ps, af, gd⟩ s α) (wE (nx P) ops Q r E (upd s d undef) α) := rfl
@[simp] theorem we_cap (l : List Operand) (ts : Array TypeId) : wEd g P ops Q ⟨some d, .call ⟨.builtin .cap, l.toArray, ts⟩, ty, ps, af, gd⟩ r E s α = wEb (nx (elk E d = none)) g (wEa (nx (abuiltin P .cap ts (l.map (ev s)) α)) P ops Q r E ⟨some d, .call ⟨.builtin .cap, l.toArray, ts⟩, ty, ps, af, gd⟩ s α) (wE (nx P) ops Q r E (upd s d undef) α) := rfl
@[simp] theorem we_store (t : TypeId) (x y : Operand) : wEd g P ops Q ⟨none, .store t x y, ty, ps, af, gd⟩ r E s α = wEb (nx True) g (wEa (nx ((astore P t (ev s x) (ev s y) α).map fun α' => (undef, α'))) P ops Q r E ⟨none, .store t x y, ty, ps, af, gd⟩ s α) (wE (nx P) ops Q r E s α) := by
  simp only [wEd, wEb, nx, true_and]; rfl
@[simp] theorem we_call (f : Operand) (l : List Operand) (ts : Array TypeId) : wEd g P ops Q ⟨some d, .call ⟨.value f, l.toArray, ts⟩, ty, ps, af, gd⟩ r E s α = wEb (nx (elk E d = none)) g (wcall (nx (ev s f)) P (l.map (ev s)) α (contK (wE P ops Q r E) s (some d))) (wE (nx P) ops Q r E (upd s d undef) α) := rfl
@[simp] theorem we_calln (f : Operand) (l : List Operand) (ts : Array TypeId) : wEd g P ops Q ⟨none, .call ⟨.value f, l.toArray, ts⟩, ty, ps, af, gd⟩ r E s α = wEb (nx True) g (wcall (nx (ev s f)) P (l.map (ev s)) α (contK (wE P ops Q r E) s none)) (wE (nx P) ops Q r E s α) := by
  simp only [wEd, wEb, nx, true_and]; rfl
@[simp] theorem we_invoke (x : Operand) (n : String) (l : List Operand) (ts : Array TypeId) : wEd g P ops Q ⟨some d, .call ⟨.invoke x n, l.toArray, ts⟩, ty, ps, af, gd⟩ r E s α = wEb (nx (elk E d = none)) g (NInvoke P (ev s x) n (l.map (ev s)) α (contK (wE P ops Q r E) s (some d))) (wE (nx P) ops Q r E (upd s d undef) α) := rfl
@[simp] theorem contK_wE (n : Nat) : contK (wE P ops Q r E) s (some n) v α = wE (nx P) ops Q r E (upd s n v) α := rfl
@[simp] theorem contK_wEn : contK (wE P ops Q r E) s none v α = wE (nx P) ops Q r E s α := rfl
end
/-! ### regions that draw -/
def plc (a : Oper) (x : Option (Oper × List Oper)) : Option (Oper × List Oper) := x.map fun x => (x.1, a :: x.2)
def wtn (o : Option (Oper × List Oper)) (P : Program) (ops : List Oper) (Q : Exit → AS → AH → Prop) (t : Tr) (s : AS) (α : AH) : Prop := match o with
  | some (o, r) => wtk P ops (rwk P ops Q t r) s α (some o)
  | none => False
def wan (o : Option (Oper × List Oper)) (P : Program) (ops : List Oper) (Q : Exit → AS → AH → Prop) (t : Tr) (s : AS) (α : AH) : Prop := match o with
  | some (o, r) => wat P ops (rwk P ops Q t r) s α (some o)
  | none => False
def wtg (r : Option (Value × AH)) (P : Program) (ops : List Oper) (Q : Exit → AS → AH → Prop) (t : Tr) (l : List Oper) (d : Option Nat) (s : AS) (α : AH) : Prop := match r with
  | some (v, _) => rwk P ops Q t l (putA s d v) α
  | none => False
def wag (r : Option (Value × AH)) (P : Program) (ops : List Oper) (Q : Exit → AS → AH → Prop) (t : Tr) (l : List Oper) (o : Oper) (s : AS) (α : AH) : Prop := match r with
  | some (v, α') => rwk P ops Q t l (putA s o.dst v) α'
  | none => NPure P o s α (contK (rwk P ops Q t l) s o.dst)
section
variable {P : Program} {ops l : List Oper} {Q : Exit → AS → AH → Prop} {t : Tr} {c : Ch} {s : AS} {α : AH}
theorem wtn_congr {o o' : Option (Oper × List Oper)} (h : o = o') : wtn o P ops Q t s α = wtn o' P ops Q t s α := by rw [h]
theorem wan_congr {o o' : Option (Oper × List Oper)} (h : o = o') : wan o P ops Q t s α = wan o' P ops Q t s α := by rw [h]
theorem wtg_congr {r r' : Option (Value × AH)} {d : Option Nat} (h : r = r') : wtg r P ops Q t l d s α = wtg r' P ops Q t l d s α := by rw [h]
theorem wag_congr {r r' : Option (Value × AH)} {o : Oper} (h : r = r') : wag r P ops Q t l o s α = wag r' P ops Q t l o s α := by rw [h]
theorem rwk_congr {P' : Program} (h : P = P') : rwk P ops Q t l s α = rwk P' ops Q t l s α := by rw [h]
theorem rch_congr {P' : Program} (h : P = P') : rch P ops Q c l s α = rch P' ops Q c l s α := by rw [h]
theorem wops_congr {P' : Program} (h : P = P') : wops P ops Q l s α = wops P' ops Q l s α := by rw [h]
theorem wk_congr {m : Bool} {P' : Program} {c : Code} (h : P = P') : wk m P c Q s α = wk m P' c Q s α := by rw [h]
theorem plc_congr {a : Oper} {x x' : Option (Oper × List Oper)} (h : x = x') : plc a x = plc a x' := by rw [h]
end
attribute [congr] wtn_congr wan_congr wtg_congr wag_congr rwk_congr rch_congr wops_congr wk_congr plc_congr
section
variable {P : Program} {ops l r : List Oper} {Q : Exit → AS → AH → Prop} {t : Tr} {s : AS} {α α' : AH} {d : Option Nat} {op : Op} {ty : TypeId} {ps : String} {af : Array Edge} {c : Ch}
@[simp] theorem plk_zero (o : Oper) : plk 0 (o :: r) = some (o, r) := rfl
@[simp] theorem plk_succ (n : Nat) (a : Oper) : plk (n + 1) (a :: r) = plc a (nx (plk n r)) := rfl
@[simp] theorem plc_some (a o : Oper) : plc a (some (o, r)) = some (o, a :: r) := rfl
@[simp] theorem rwk_tks (k : Nat) (x : List Nat) : rwk P ops Q (tks (k :: x) t) l s α = wtn (nx (plk k l)) P ops Q (tks x t) s α := by
  show rwk P ops Q (.take k (tks x t)) l s α = _
  rw [rwk]; unfold nx wtn; cases plk k l <;> rfl
@[simp] theorem rwk_tks0 : rwk P ops Q (tks [] t) l s α = rwk (nx P) ops Q t l s α := rfl
@[simp] theorem rwk_done : rwk P ops Q .done l s α = Q .normal s α := by rw [rwk]
@[simp] theorem rwk_take (i : Nat) : rwk P ops Q (.take i t) l s α = wtn (nx (plk i l)) P ops Q t s α := by rw [rwk]; unfold nx wtn; cases plk i l <;> rfl
@[simp] theorem rwk_pick : rwk P ops Q (.pick c) l s α = rch (nx P) ops Q c l s α := by rw [rwk]; rfl
@[simp] theorem rch_nil : rch P ops Q .nil l s α = True := by rw [rch]
@[simp] theorem rch_cons (i : Nat) : rch P ops Q (.cons i t c) l s α = (wan (nx (plk i l)) P ops Q t s α ∧ rch (nx P) ops Q c l s α) := by rw [rch]; unfold nx wan; cases plk i l <;> rfl
@[simp] theorem wtg_some (v : Value) (n : Nat) : wtg (some (v, α')) P ops Q t l (some n) s α = rwk (nx P) ops Q t l (upd s n v) α := rfl
@[simp] theorem wag_some (v : Value) (n : Nat) (g : Option (Nat × Bool)) : wag (some (v, α')) P ops Q t l ⟨some n, op, ty, ps, af, g⟩ s α = rwk (nx P) ops Q t l (upd s n v) α' := rfl
@[simp] theorem wag_somen (v : Value) (g : Option (Nat × Bool)) : wag (some (v, α')) P ops Q t l ⟨none, op, ty, ps, af, g⟩ s α = rwk (nx P) ops Q t l s α' := rfl
@[simp] theorem wtn_op : wtn (some (⟨d, op, ty, ps, af, none⟩, l)) P ops Q t s α = wtg (nx (aop P op s α)) P ops Q t l d s α := rfl
theorem wgd_eq {o : Oper} {j : Nat} {w : Bool} {A B : Prop} (h : o.guard = some (j, w)) : wgd ops o A B s = wg (nx (gvl (gts ops j s) w)) A B := by
  simp only [wgd, h]
  unfold nx
  cases gvl (gts ops j s) w with
  | none => simp [wg]
  | some p => simp only [Option.some.injEq]; exact propext ⟨fun ⟨_, h, k⟩ => by subst h; exact k, fun h => ⟨_, rfl, h⟩⟩
@[simp] theorem wtn_guard (n j : Nat) (w : Bool) : wtn (some (⟨some n, op, ty, ps, af, some (j, w)⟩, l)) P ops Q t s α = wg (nx (gvl (gts ops j s) w)) (wtn (nx (some (⟨some n, op, ty, ps, af, none⟩, l))) P ops Q t s α) (rwk (nx P) ops Q t l (upd s n undef) α) := by simp only [wtn, wtk]; rw [wgd_eq (j := j) (w := w) rfl]; rfl
@[simp] theorem wan_guard (n j : Nat) (w : Bool) : wan (some (⟨some n, op, ty, ps, af, some (j, w)⟩, l)) P ops Q t s α = wg (nx (gvl (gts ops j s) w)) (wan (nx (some (⟨some n, op, ty, ps, af, none⟩, l))) P ops Q t s α) (rwk (nx P) ops Q t l (upd s n undef) α) := by simp only [wan, wat]; rw [wgd_eq (j := j) (w := w) rfl]; rfl
@[simp] theorem wan_guardn (j : Nat) (w : Bool) : wan (some (⟨none, op, ty, ps, af, some (j, w)⟩, l)) P ops Q t s α = wg (nx (gvl (gts ops j s) w)) (wan (nx (some (⟨none, op, ty, ps, af, none⟩, l))) P ops Q t s α) (rwk (nx P) ops Q t l s α) := by simp only [wan, wat]; rw [wgd_eq (j := j) (w := w) rfl]; rfl
@[simp] theorem wan_call (f : Operand) (x : List Operand) (ts : Array TypeId) : wan (some (⟨d, .call ⟨.value f, x.toArray, ts⟩, ty, ps, af, none⟩, l)) P ops Q t s α = wcall (nx (ev s f)) P (x.map (ev s)) α (contK (rwk P ops Q t l) s d) := rfl
@[simp] theorem wan_invoke (x : Operand) (n : String) (y : List Operand) (ts : Array TypeId) : wan (some (⟨d, .call ⟨.invoke x n, y.toArray, ts⟩, ty, ps, af, none⟩, l)) P ops Q t s α = NInvoke P (ev s x) n (y.map (ev s)) α (contK (rwk P ops Q t l) s d) := rfl
@[simp] theorem wan_store (u : TypeId) (x y : Operand) : wan (some (⟨d, .store u x y, ty, ps, af, none⟩, l)) P ops Q t s α = wag (nx ((astore P u (ev s x) (ev s y) α).map fun α' => (undef, α'))) P ops Q t l ⟨d, .store u x y, ty, ps, af, none⟩ s α := rfl
@[simp] theorem wan_builtin (b : Builtin) (x : List Operand) (ts : Array TypeId) : wan (some (⟨d, .call ⟨.builtin b, x.toArray, ts⟩, ty, ps, af, none⟩, l)) P ops Q t s α = wag (nx (abuiltin P b ts (x.map (ev s)) α)) P ops Q t l ⟨d, .call ⟨.builtin b, x.toArray, ts⟩, ty, ps, af, none⟩ s α := rfl
@[simp] theorem wan_alloc (e : TypeId) : wan (some (⟨d, .alloc e, ty, ps, af, none⟩, l)) P ops Q t s α = wag (nx (aalloc P e α)) P ops Q t l ⟨d, .alloc e, ty, ps, af, none⟩ s α := rfl
@[simp] theorem wan_box (e : TypeId) (x : Operand) : wan (some (⟨d, .box e x, ty, ps, af, none⟩, l)) P ops Q t s α = wag (nx (abox e (ev s x) α)) P ops Q t l ⟨d, .box e x, ty, ps, af, none⟩ s α := rfl
@[simp] theorem wan_buildSlice (u : TypeId) (n : Nat) (x : List (Nat × Operand)) : wan (some (⟨d, .buildSlice u n x.toArray, ty, ps, af, none⟩, l)) P ops Q t s α = wag (nx (abuildSlice P u n (x.map fun p => (p.1, ev s p.2)) α)) P ops Q t l ⟨d, .buildSlice u n x.toArray, ty, ps, af, none⟩ s α := rfl
@[simp] theorem wan_makeSlice (u : TypeId) (x c : Operand) : wan (some (⟨d, .makeSlice u x c, ty, ps, af, none⟩, l)) P ops Q t s α = wag (nx (amake P u (ev s x) (ev s c) α)) P ops Q t l ⟨d, .makeSlice u x c, ty, ps, af, none⟩ s α := rfl
@[simp] theorem wan_move (x : Operand) : wan (some (⟨d, .move x, ty, ps, af, none⟩, l)) P ops Q t s α = wag (nx (aop P (.move x) s α)) P ops Q t l ⟨d, .move x, ty, ps, af, none⟩ s α := rfl
@[simp] theorem wan_assign (x : Operand) : wan (some (⟨d, .assign x, ty, ps, af, none⟩, l)) P ops Q t s α = wag (nx (aop P (.assign x) s α)) P ops Q t l ⟨d, .assign x, ty, ps, af, none⟩ s α := rfl
@[simp] theorem wan_pick (c a b : Operand) : wan (some (⟨d, .pick c a b, ty, ps, af, none⟩, l)) P ops Q t s α = wag (nx (aop P (.pick c a b) s α)) P ops Q t l ⟨d, .pick c a b, ty, ps, af, none⟩ s α := rfl
@[simp] theorem wan_build (u : TypeId) (x : Array (Nat × Operand)) : wan (some (⟨d, .build u x, ty, ps, af, none⟩, l)) P ops Q t s α = wag (nx (aop P (.build u x) s α)) P ops Q t l ⟨d, .build u x, ty, ps, af, none⟩ s α := rfl
@[simp] theorem wan_load (u : TypeId) (x : Operand) : wan (some (⟨d, .load u x, ty, ps, af, none⟩, l)) P ops Q t s α = wag (nx (aop P (.load u x) s α)) P ops Q t l ⟨d, .load u x, ty, ps, af, none⟩ s α := rfl
@[simp] theorem wan_nilCheck (x : Operand) : wan (some (⟨d, .nilCheck x, ty, ps, af, none⟩, l)) P ops Q t s α = wag (nx (aop P (.nilCheck x) s α)) P ops Q t l ⟨d, .nilCheck x, ty, ps, af, none⟩ s α := rfl
@[simp] theorem wan_binOp (o : BinOp) (u : TypeId) (x y : Operand) (w : TypeId) : wan (some (⟨d, .binOp o u x y w, ty, ps, af, none⟩, l)) P ops Q t s α = wag (nx (aop P (.binOp o u x y w) s α)) P ops Q t l ⟨d, .binOp o u x y w, ty, ps, af, none⟩ s α := rfl
@[simp] theorem wan_unOp (o : UnOp) (u : TypeId) (x : Operand) : wan (some (⟨d, .unOp o u x, ty, ps, af, none⟩, l)) P ops Q t s α = wag (nx (aop P (.unOp o u x) s α)) P ops Q t l ⟨d, .unOp o u x, ty, ps, af, none⟩ s α := rfl
@[simp] theorem wan_convert (u w : TypeId) (x : Operand) : wan (some (⟨d, .convert u w x, ty, ps, af, none⟩, l)) P ops Q t s α = wag (nx (aop P (.convert u w x) s α)) P ops Q t l ⟨d, .convert u w x, ty, ps, af, none⟩ s α := rfl
@[simp] theorem wan_slice (u : TypeId) (x : Operand) (lo hi mx : Option Operand) : wan (some (⟨d, .slice u x lo hi mx, ty, ps, af, none⟩, l)) P ops Q t s α = wag (nx (aop P (.slice u x lo hi mx) s α)) P ops Q t l ⟨d, .slice u x lo hi mx, ty, ps, af, none⟩ s α := rfl
@[simp] theorem wan_fieldAddr (u : TypeId) (x : Operand) (f : Nat) : wan (some (⟨d, .fieldAddr u x f, ty, ps, af, none⟩, l)) P ops Q t s α = wag (nx (aop P (.fieldAddr u x f) s α)) P ops Q t l ⟨d, .fieldAddr u x f, ty, ps, af, none⟩ s α := rfl
@[simp] theorem wan_field (u : TypeId) (x : Operand) (f : Nat) : wan (some (⟨d, .field u x f, ty, ps, af, none⟩, l)) P ops Q t s α = wag (nx (aop P (.field u x f) s α)) P ops Q t l ⟨d, .field u x f, ty, ps, af, none⟩ s α := rfl
@[simp] theorem wan_indexAddr (u : TypeId) (x i : Operand) : wan (some (⟨d, .indexAddr u x i, ty, ps, af, none⟩, l)) P ops Q t s α = wag (nx (aop P (.indexAddr u x i) s α)) P ops Q t l ⟨d, .indexAddr u x i, ty, ps, af, none⟩ s α := rfl
@[simp] theorem wan_index (u : TypeId) (x i : Operand) : wan (some (⟨d, .index u x i, ty, ps, af, none⟩, l)) P ops Q t s α = wag (nx (aop P (.index u x i) s α)) P ops Q t l ⟨d, .index u x i, ty, ps, af, none⟩ s α := rfl
@[simp] theorem wan_extract (x : Operand) (i : Nat) : wan (some (⟨d, .extract x i, ty, ps, af, none⟩, l)) P ops Q t s α = wag (nx (aop P (.extract x i) s α)) P ops Q t l ⟨d, .extract x i, ty, ps, af, none⟩ s α := rfl
@[simp] theorem wan_makeInterface (u : TypeId) (x : Operand) : wan (some (⟨d, .makeInterface u x, ty, ps, af, none⟩, l)) P ops Q t s α = wag (nx (aop P (.makeInterface u x) s α)) P ops Q t l ⟨d, .makeInterface u x, ty, ps, af, none⟩ s α := rfl
variable {v : Value}
@[simp] theorem contK_ops (n : Nat) : contK (wops P ops Q r) s (some n) v α = wops (nx P) ops Q r (upd s n v) α := rfl
@[simp] theorem contK_opsn : contK (wops P ops Q r) s none v α = wops (nx P) ops Q r s α := rfl
@[simp] theorem contK_rwk (n : Nat) : contK (rwk P ops Q t l) s (some n) v α = rwk (nx P) ops Q t l (upd s n v) α := rfl
@[simp] theorem contK_rwkn : contK (rwk P ops Q t l) s none v α = rwk (nx P) ops Q t l s α := rfl
end
attribute [simp] Fr.refl
theorem tk_next {τ : Type} {xs ys : List τ} {i : Nat} (h : xs.take i = ys.take i) (hx : i < xs.length) (hy : i < ys.length) (he : xs[i] = ys[i]) : xs.take (i + 1) = ys.take (i + 1) := by
  rw [List.take_succ_eq_append_getElem hx, List.take_succ_eq_append_getElem hy, h, he]
theorem tk_all {τ : Type} {xs ys : List τ} {i : Nat} (h : xs.take i = ys.take i) (hx : i = xs.length) (hy : xs.length = ys.length) : xs = ys := by
  rw [hx, List.take_length, hy, List.take_length] at h; exact h
theorem foldl_take {τ σ : Type} (f : σ → τ → σ) (a : σ) (l : List τ) {i : Nat} (h : i < l.length) : (l.take (i + 1)).foldl f a = f ((l.take i).foldl f a) l[i] := by
  rw [List.take_succ_eq_append_getElem h, List.foldl_append]; rfl
@[simp] theorem AH.alloc_set (α : AH) (b c : ABlk) : (α.alloc b).set α.n (some c) = α.alloc c := by
  simp only [AH.alloc, AH.set]
  congr 1
  funext i
  split <;> rfl
@[simp] theorem natI (i j : Nat) : ((i : Int) = (j : Int)) = (i = j) := propext Int.ofNat_inj
@[simp] theorem beqN (i j : Nat) : ((i : Int) == (j : Int)) = decide (i = j) := by rw [Bool.eq_iff_iff]; simp
@[simp] theorem both_same {p A : Prop} : both p A A = A := propext ⟨fun h => (Classical.em p).elim h.y h.n, fun h => ⟨fun _ => h, fun _ => h⟩⟩
@[simp] theorem Fr.alloc0 (α : AH) (b : ABlk) : Fr α.n α (α.alloc b) := (Fr.refl _ _).alloc (Nat.le_refl _) _
theorem Fr.up {a b c : AH} (h : Fr a.n a b) (k : Fr b.n b c) : Fr a.n a c := h.trans (k.mono h.n)
/-! ### a row that is handed on and grows: its block alone goes -/
def Bk (u : Value) (i : Nat) : Prop := ∃ o l c, u = .slice (some ⟨i, o, none⟩) l c
structure FrU (u : Value) (α α' : AH) : Prop where
  n : α.n ≤ α'.n
  get : ∀ i, i < α.n → ¬ Bk u i → α'.get i = α.get i
theorem FrU.refl (u : Value) (α : AH) : FrU u α α := ⟨Nat.le_refl _, fun _ _ _ => rfl⟩
theorem FrU.of {u : Value} {a b : AH} (h : Fr a.n a b) : FrU u a b := ⟨h.n, fun i hi _ => h.get i hi⟩
theorem FrU.fr {τ : Type} {N : Nat} {e : TypeId} {K : Kd τ} {α α' : AH} {u : Value} {xs : List τ} (h : FrU u α α') (ho : Ow N e K α u xs) (hn : N ≤ α.n) : Fr N α α' := ⟨h.n, fun i hi => h.get i (by omega) fun ⟨o, l, c, hb⟩ => by
  rcases ho with ⟨rfl, _⟩ | ⟨id, c', b, rfl, h2, _⟩
  · cases hb
  · cases hb; omega⟩
/-- one step more: what is handed on now is the row of the beginning, or one that was made since -/
theorem FrU.trans {τ : Type} {e : TypeId} {K : Kd τ} {α β γ : AH} {u w : Value} {xs : List τ} (h : FrU u α β) (hw : w = u ∨ Ow α.n e K β w xs) (k : FrU w β γ) : FrU u α γ := ⟨Nat.le_trans h.n k.n, fun i hi hu => by
  rw [k.get i (Nat.lt_of_lt_of_le hi h.n) (fun hb => ?_)]
  · exact h.get i hi hu
  · rcases hw with rfl | hw
    · exact hu hb
    · obtain ⟨o, l, c, rfl⟩ := hb
      rcases hw with ⟨h1, _⟩ | ⟨id, c', b, h1, h2, _⟩
      · cases h1
      · cases h1; omega⟩
theorem FrU.tr {α β γ : AH} {u : Value} (h : FrU u α β) (k : Fr β.n β γ) : FrU u α γ := ⟨Nat.le_trans h.n k.n, fun i hi hu => by rw [k.get i (Nat.lt_of_lt_of_le hi h.n)]; exact h.get i hi hu⟩
theorem FrU.rt {τ : Type} {N : Nat} {e : TypeId} {K : Kd τ} {α β γ : AH} {u : Value} (h : Fr α.n α β) (k : FrU u β γ) : FrU u α γ := ⟨Nat.le_trans h.n k.n, fun i hi hu => by rw [k.get i (Nat.lt_of_lt_of_le hi h.n) hu]; exact h.get i hi⟩
theorem aappend_fr {P : Program} {ts : Array TypeId} {s x v' : Value} {α α' : AH} (h : aappend P ts s x α = some (v', α')) : FrU s α α' ∧ ((v' = .slice none 0 0 ∧ α' = α) ∨ ∃ n, v' = .slice (some ⟨α.n, 0, none⟩) n 0) := by
  unfold aappend at h
  split at h
  · split at h
    · split at h
      · split at h
        · split at h
          · split at h
            · split at h
              · cases h; exact ⟨.refl _ _, .inl ⟨rfl, rfl⟩⟩
              · split at h
                · cases h; exact ⟨.of ((Fr.refl _ _).alloc (Nat.le_refl _) _), .inr ⟨_, rfl⟩⟩
                · cases h
            · split at h
              · split at h
                · cases h
                  exact ⟨⟨Nat.le_succ _, fun i hi hu => by rw [AH.alloc_get_ne _ _ (by simp; omega), AH.set_get_ne _ _ (fun he => hu (by subst he; exact ⟨_, _, _, rfl⟩))]⟩, .inr ⟨_, rfl⟩⟩
                · cases h
              · cases h
            · cases h
          · cases h
        · cases h
      · cases h
    · cases h
  · cases h
theorem Ow.from {τ : Type} {N M id n c : Nat} {e : TypeId} {K : Kd τ} {α : AH} {xs : List τ} (h : Ow N e K α (.slice (some ⟨id, 0, none⟩) n c) xs) (hM : M ≤ id) : Ow M e K α (.slice (some ⟨id, 0, none⟩) n c) xs := by
  rcases h with ⟨h, _⟩ | ⟨id', c', b, h1, h2, h3⟩
  · cases h
  · cases h1; exact .inr ⟨id, c, b, rfl, hM, h3⟩
/-- One more, and the row is new. -/
theorem Ow.push1 {τ : Type} {N : Nat} {e : TypeId} {K : Kd τ} {α : AH} {v : Value} {xs : List τ} (h : Ow N e K α v xs) {P : Program} {t : TypeId} {by_ : Nat} (T : ElT P t e K.sz by_) (hN : N ≤ α.n) {x : τ} {c : List Value} (hx : K.R α x c) (hk : K.apart e)
    (hl : (xs.length + 1) * by_ ≤ 140737488355328) (cap : Nat) : ∃ v' α', aappend P #[t, t] v (.slice (some ⟨α.n, 0, none⟩) 1 cap) (α.alloc ⟨c, e, true⟩) = some (v', α') ∧ Ow α.n e K α' v' (xs ++ [x]) ∧ FrU v α α' ∧ Kp e α α' := by
  obtain ⟨v', α', h1, h2, h3, h4⟩ := h.push T hN hx hk hl cap
  obtain ⟨k1, k2⟩ := aappend_fr h1
  refine ⟨v', α', h1, ?_, ⟨by have := k1.n; simp at this; omega, fun i hi hu => by rw [k1.get i (by simp; omega) hu, AH.alloc_get_ne _ _ (by omega)]⟩, h4⟩
  rcases k2 with ⟨rfl, _⟩ | ⟨n, rfl⟩
  · rcases h2 with ⟨_, h⟩ | ⟨id, c', b, h, _⟩
    · simp at h
    · cases h
  · exact h2.from (by simp)
theorem Ow.fru {τ σ : Type} {N M : Nat} {e e' : TypeId} {K : Kd τ} {K' : Kd σ} {α α' : AH} {v u : Value} {xs : List τ} {ys : List σ} (h : Ow N e K α v xs) (hf : FrU u α α') (hu : Ow M e' K' α u ys) (hne : e ≠ e') (hk : ∀ x c, K.R α x c → K.R α' x c) : Ow N e K α' v xs := by
  rcases h with h | ⟨id, c, b, h1, h2, h3, h4, h5, h6, h7, h8⟩
  · exact .inl h
  · refine .inr ⟨id, c, b, h1, h2, Nat.lt_of_lt_of_le h3 hf.n, ?_, h5, h6, h7, fun i hi => hk _ _ (h8 i hi)⟩
    rw [hf.get id h3 fun ⟨o, l, c, hb⟩ => ?_]
    · exact h4
    · rcases hu with ⟨rfl, _⟩ | ⟨id', c', b', rfl, k2, k3, k4, k5, _⟩
      · cases hb
      · cases hb
        rw [h4] at k4
        cases k4
        exact hne (h5.symm.trans k5)
/-- A loop whose ground is held closed. -/
theorem wlp {P : Program} {m : Bool} {c : Code} {Q : Exit → AS → AH → Prop} {s : AS} {α : AH} (V : List Nat) (lo hi : Nat) (hA : fitC (ovA V lo hi) c = true) (n : Nat) (I : Nat → AS → AH → Prop) (h0 : I n s α)
    (h : ∀ (J : Nat → AS → AH → Prop), (∀ n s α, I n s α → J n s α) → ∀ n t α', I n t α' → wk m (nx P) c (nthen (agn J n) Q) (over V lo hi t s) α') : wk m P (.loop c) Q s α :=
  wloop V lo hi hA n I h0 (h I fun _ _ _ h => h)
end Go.Lay
