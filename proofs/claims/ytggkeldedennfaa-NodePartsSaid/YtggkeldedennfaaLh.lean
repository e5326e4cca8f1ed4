/- The layer, part 9: how it is reckoned with; what lists in memory are. -/
import Derived.Test.YtggkeldedennfaaLk
set_option linter.unusedVariables false
set_option linter.unusedSimpArgs false
namespace Go.Lay
open Go Go.RowKit
attribute [simp] rep NOp NTake NAt aop guardOk wantedA yieldedA fitsA flatD flat upd_eq apick abox aalloc abuild abuildSlice afill abound seqA abuiltin apart afield aindex aextract anilCheck aun aconv aiface
  aint ashift anil nilOf aeq fEq sEq abin cstA cellsL Value.cells setL aresults List.mapM_cons junk undef Obj.noConfusion

section
variable (s : AS) (α : AH) (P : Program) (Q : Exit → AS → AH → Prop) (K : AS → AH → Prop)
@[simp] theorem ev_tmp (t : Nat) : ev s (.tmp t) = s t := rfl
@[simp] theorem ev_const (v : Value) : ev s (.const v) = if flatD v = true then v else junk := rfl
@[simp] theorem ev_func (f : FuncId) : ev s (.func f) = .func (.func f) #[] #[] := rfl
@[simp] theorem nthen_normal : nthen K Q .normal s α = K s α := rfl
@[simp] theorem nthen_ret : nthen K Q .ret s α = Q .ret s α := rfl
@[simp] theorem nthen_exit (i : Nat) : nthen K Q (.exit i) s α = Q (.exit i) s α := rfl
@[simp] theorem nblock_normal (i : Nat) : nblock i Q .normal s α = Q .normal s α := rfl
@[simp] theorem nblock_ret (i : Nat) : nblock i Q .ret s α = Q .ret s α := rfl
@[simp] theorem nblock_exit (i j : Nat) : nblock i Q (.exit j) s α = if j = i then Q .normal s α else Q (.exit j) s α := rfl
@[simp] theorem bodyQ_normal (rs : List ResultVar) (R : Value → AH → Prop) : bodyQ P rs R .normal s α = ∃ v, aresults P rs s α = some v ∧ R v α := rfl
@[simp] theorem bodyQ_ret (rs : List ResultVar) (R : Value → AH → Prop) : bodyQ P rs R .ret s α = ∃ v, aresults P rs s α = some v ∧ R v α := rfl
@[simp] theorem aresult_tmp (t : Nat) : aresult P s α (.tmp t) = some (s t) := rfl
@[simp] theorem aresult_cell (a : Nat) (t : TypeId) : aresult P s α (.cell a t) = aload P t (s a) α := rfl
@[simp] theorem initS_eq (args : List Value) (i : Nat) : initS args i = (args[i]?).getD undef := rfl
@[simp] theorem isCell_bool (b : Bool) : isCell (.bool b) = true := rfl
@[simp] theorem isCell_int (k : IntKind) (n : Int) : isCell (.int k n) = true := rfl
@[simp] theorem isCell_string (b : ByteArray) : isCell (.string b) = true := rfl
@[simp] theorem isCell_slice (a : Option Addr) (n c : Nat) : isCell (.slice a n c) = true := rfl
@[simp] theorem isCell_pointer (a : Option Addr) : isCell (.pointer a) = true := rfl
@[simp] theorem isCell_nilIface : isCell .nilIface = true := rfl
@[simp] theorem isCell_iface (t : TypeId) (v : Value) : isCell (.iface t v) = true := rfl
@[simp] theorem isCell_nilFunc : isCell .nilFunc = true := rfl
@[simp] theorem isCell_func (f : Fn) (a c : Array Value) : isCell (.func f a c) = true := rfl
end
/- What is still to be done, closed: it is looked into where a state is at hand, not ahead. -/
def kont (P : Program) (N : Nat) (ops : Array Oper) (K : AS → AH → Prop) (l : List Oper) : AS → AH → Prop := NOps P N ops K l
def ktr (P : Program) (N : Nat) (ops : Array Oper) (K : AS → AH → Prop) (t : Tr) : AS → AH → Prop := NTr P N ops K t
section
variable {P : Program} {N : Nat} {ops : Array Oper} {K : AS → AH → Prop} {s : AS} {α : AH}
@[simp] theorem kont_eq (l : List Oper) : kont P N ops K l s α = NOps P N ops K l s α := rfl
@[simp] theorem ktr_eq (t : Tr) : ktr P N ops K t s α = NTr P N ops K t s α := rfl
@[simp] theorem nops_nil : NOps P N ops K [] s α = K s α := rfl
@[simp] theorem nops_cons (o : Oper) (rest : List Oper) : NOps P N ops K (o :: rest) s α = (guardOk ops o s ∧ if wantedA ops o s = true then NOp P N o (kont P N ops K rest) s α else fitsA N o.dst ∧ NOps P N ops K rest (putA s o.dst undef) α) := rfl
@[simp] theorem ntr_done : NTr P N ops K .done s α = K s α := by simp only [NTr]
@[simp] theorem ntr_take (i : Nat) (t : Tr) : NTr P N ops K (.take i t) s α = NTake P N ops i (ktr P N ops K t) s α := by simp only [NTr]; rfl
@[simp] theorem ntr_pick (c : Ch) : NTr P N ops K (.pick c) s α = NCh P N ops K c s α := by simp only [NTr]
@[simp] theorem nch_nil : NCh P N ops K .nil s α = True := by simp only [NCh]
@[simp] theorem nch_cons (i : Nat) (t : Tr) (c : Ch) : NCh P N ops K (.cons i t c) s α = (NAt P N ops i (ktr P N ops K t) s α ∧ NCh P N ops K c s α) := by simp only [NCh]; rfl
end

/-! ### what an operation does at values whose form is seen -/
section
variable {P : Program} {t e : TypeId} {α : AH}
@[simp] theorem alen_slice (h : P.underlying t = some (.slice e)) (a : Option Addr) (n c : Nat) : alen P #[t] (.slice a n c) = some (.int .i64 n) := by simp [alen, h]
@[simp] theorem alen_string (h : P.underlying t = some .string) (s : ByteArray) : alen P #[t] (.string s) = some (.int .i64 (s.size : Int)) := by simp [alen, h]
@[simp] theorem aload_ptr (id off : Nat) : aload P t (.pointer (some ⟨id, off, none⟩)) α = match α.get id with
    | some b => match aggA P t with
      | some false => b.cells[off]?
      | some true => match sizeA P t with
        | some n => if off + n ≤ b.cells.length then some (.agg ((b.cells.drop off).take n).toArray) else none
        | none => none
      | none => none
    | none => none := rfl
@[simp] theorem astore_ptr (id off : Nat) (v : Value) : astore P t (.pointer (some ⟨id, off, none⟩)) v α = match α.get id with
    | some b => if b.own = true ∧ (cellsL v).all isCell = true ∧ sizeA P t = some (cellsL v).length ∧ off + (cellsL v).length ≤ b.cells.length then
        some (α.set id (some { b with cells := setL b.cells off (cellsL v) })) else none
    | none => none := rfl
@[simp] theorem afieldAddr_ptr {fs : Array Field} (h : P.underlying t = some (.struct fs)) (id off f : Nat) : afieldAddr P t (.pointer (some ⟨id, off, none⟩)) f = match fs[f]? with
    | some fd => match sizeA P fd.type with
      | some (_ + 1) => some (.pointer (some ⟨id, off + fd.offset, none⟩))
      | _ => none
    | none => none := by unfold afieldAddr; rw [h]; rfl
@[simp] theorem aindexAddr_slice (h : P.underlying t = some (.slice e)) (id off len c : Nat) (k : IntKind) (n : Int) : aindexAddr P t (.slice (some ⟨id, off, none⟩) len c) (.int k n) =
    if 0 ≤ n ∧ n < (len : Int) then (sizeA P e).map fun sz => .pointer (some ⟨id, off + n.toNat * sz, none⟩) else none := by simp [aindexAddr, h]
@[simp] theorem aindexAddr_array {m : Nat} (h : P.underlying t = some (.array m e)) (id off : Nat) (k : IntKind) (n : Int) : aindexAddr P t (.pointer (some ⟨id, off, none⟩)) (.int k n) =
    if 0 ≤ n ∧ n < (m : Int) then (sizeA P e).map fun sz => .pointer (some ⟨id, off + n.toNat * sz, none⟩) else none := by simp [aindexAddr, h]
end
section
variable {P : Program} {N : Nat} {Q : Exit → AS → AH → Prop} {s : AS} {α : AH}
theorem nw_yes {c : Operand} {x y : Code} (hc : ev s c = .bool true) (h : NW P N x Q s α) : NW P N (.cond c x y) Q s α := nw_cond hc (fun _ => h) (fun h => by cases h)
theorem nw_no {c : Operand} {x y : Code} (hc : ev s c = .bool false) (h : NW P N y Q s α) : NW P N (.cond c x y) Q s α := nw_cond hc (fun h => by cases h) (fun _ => h)
end
@[simp] theorem set_alloc_get (α : AH) (b : ABlk) (c : Option ABlk) : ((α.alloc b).set α.n c).get α.n = c := by simp
end Go.Lay
