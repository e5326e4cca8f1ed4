/- Parts of this proof, joined: La, Lb, Lc, Ld, Le, Lf, Lg, Lk, Lh, Lm, Ln. -/
import Derived.Below
import Derived.Tactics
import Derived.KernelRfl
import Derived.Deep.LoopGhost
import Derived.Laws.IdiomCopy
import Derived.Laws.Tables
import Derived.Laws.Cells
import Derived.Laws.Append
import Derived.Deep.MidRow
import Derived.Great.BuildSlice
import Derived.Laws.MakeOwn
import Derived.IntWalk
import Derived.Deep.AppendSrc
import Derived.Laws.StructEq

set_option linter.unusedVariables false
set_option linter.unusedSimpArgs false
namespace Go.Lay
open Go Go.RowKit

def junk : Value := .chan (some 0)

def flat : Value → Bool
  | .bool _ | .int _ _ | .float _ _ | .complex _ _ _ | .string _ => true
  | .pointer none | .slice none 0 0 | .map none | .chan none | .nilFunc | .nilIface => true
  | .tuple vs => vs.size == 0
  | .func _ a b => a.size == 0 && b.size == 0
  | _ => false

def isCell : Value → Bool
  | .agg _ | .tuple _ | .chan (some _) => false
  | _ => true

/-- closed values: flat ones, and aggregates of flat ones -/
def flatD : Value → Bool
  | .agg cs => cs.toList.all fun x => flat x && isCell x
  | v => flat v

theorem isCell_one {v : Value} (h : isCell v = true) : v.oneCell' = true := by
  cases v <;> simp_all [isCell, Value.oneCell']

structure AM where
  n : Nat
  b : Nat → Nat
  base : Nat → Nat
  top : Nat → Nat
  sz : Nat → Nat

structure AM.le (m m' : AM) : Prop where
  n : m.n ≤ m'.n
  b : ∀ i, i < m.n → m'.b i = m.b i
  base : ∀ i, i < m.n → m'.base i = m.base i
  top : ∀ i, i < m.n → m'.top i = m.top i
  sz : ∀ i, i < m.n → m'.sz i = m.sz i

theorem AM.le.refl (m : AM) : m.le m := ⟨Nat.le_refl _, fun _ _ => rfl, fun _ _ => rfl, fun _ _ => rfl, fun _ _ => rfl⟩
theorem AM.le.trans {a b c : AM} (h : a.le b) (k : b.le c) : a.le c :=
  ⟨Nat.le_trans h.n k.n, fun i hi => (k.b i (Nat.lt_of_lt_of_le hi h.n)).trans (h.b i hi), fun i hi => (k.base i (Nat.lt_of_lt_of_le hi h.n)).trans (h.base i hi),
   fun i hi => (k.top i (Nat.lt_of_lt_of_le hi h.n)).trans (h.top i hi), fun i hi => (k.sz i (Nat.lt_of_lt_of_le hi h.n)).trans (h.sz i hi)⟩

inductive VR (m : AM) : Value → Value → Prop
  | jk (v : Value) : VR m junk v
  | fl {v : Value} (h : flat v = true) : VR m v v
  | ptr {id off : Nat} (h : id < m.n) : VR m (.pointer (some ⟨id, off, none⟩)) (.pointer (some ⟨m.b id, m.base id + off, none⟩))
  | sl {id off len c c' o' : Nat} (h : id < m.n) (ho : 0 < len → o' = m.base id + off) (hl : len ≤ c') (ht : o' + c' * m.sz id ≤ m.top id) :
      VR m (.slice (some ⟨id, off, none⟩) len c) (.slice (some ⟨m.b id, o', none⟩) len c')
  | iface {t : TypeId} {v v' : Value} (h : VR m v v') : VR m (.iface t v) (.iface t v')
  | agg {cs cs' : Array Value} (hs : cs.size = cs'.size) (h : ∀ i : Nat, VR m (cs[i]?.getD undef) (cs'[i]?.getD undef)) : VR m (.agg cs) (.agg cs')
  | tuple {cs cs' : Array Value} (hs : cs.size = cs'.size) (h : ∀ i : Nat, VR m (cs[i]?.getD undef) (cs'[i]?.getD undef)) : VR m (.tuple cs) (.tuple cs')
  | func {fn : Fn} {f f' c c' : Array Value} (hf : f.size = f'.size) (h : ∀ i : Nat, VR m (f[i]?.getD undef) (f'[i]?.getD undef)) (hc : c.size = c'.size) (k : ∀ i : Nat, VR m (c[i]?.getD undef) (c'[i]?.getD undef)) :
      VR m (.func fn f c) (.func fn f' c')

theorem VR.undef (m : AM) : VR m undef undef := .fl rfl

theorem VR.mono {m m' : AM} (hm : m.le m') {v v' : Value} (h : VR m v v') : VR m' v v' := by
  induction h with
  | jk v => exact .jk v
  | fl h => exact .fl h
  | ptr h => rename_i id off; rw [← hm.b id h, ← hm.base id h]; exact .ptr (Nat.lt_of_lt_of_le h hm.n)
  | sl h ho hl ht =>
    rename_i id off len c c' o'
    rw [← hm.b id h]
    exact .sl (Nat.lt_of_lt_of_le h hm.n) (by rw [hm.base id h]; exact ho) hl (by rw [hm.sz id h, hm.top id h]; exact ht)
  | iface _ ih => exact .iface ih
  | agg hs _ ih => exact .agg hs ih
  | tuple hs _ ih => exact .tuple hs ih
  | func hf _ hc _ ih1 ih2 => exact .func hf ih1 hc ih2

theorem VR.eq_flat {m : AM} {v v' : Value} (h : VR m v v') (hf : flat v = true) : v' = v := by
  cases h with
  | jk v => simp [flat, junk] at hf
  | fl h => rfl
  | ptr h => simp [flat] at hf
  | sl h => simp [flat] at hf
  | iface h => simp [flat] at hf
  | agg => simp [flat] at hf
  | tuple hs h =>
    simp [flat] at hf
    subst hf
    have := Array.eq_empty_of_size_eq_zero hs.symm
    rw [this]
  | func h1 _ h2 _ =>
    simp [flat] at hf
    obtain ⟨rfl, rfl⟩ := hf
    rw [Array.eq_empty_of_size_eq_zero h1.symm, Array.eq_empty_of_size_eq_zero h2.symm]

theorem VR.one {m : AM} {v v' : Value} (h : VR m v v') (hc : isCell v = true) : isCell v' = true := by
  cases h <;> simp_all [isCell, junk]

/-- lists of values, place by place -/
def VRL (m : AM) (l l' : List Value) : Prop := l.length = l'.length ∧ ∀ (i : Nat) (x : Value), l[i]? = some x → ∃ x', l'[i]? = some x' ∧ VR m x x'

theorem VRL.mono {m m' : AM} (hm : m.le m') {l l' : List Value} (h : VRL m l l') : VRL m' l l' :=
  ⟨h.1, fun i x hx => let ⟨x', h1, h2⟩ := h.2 i x hx; ⟨x', h1, h2.mono hm⟩⟩
theorem VRL.nil (m : AM) : VRL m [] [] := ⟨rfl, fun i x h => by simp at h⟩
theorem VRL.cons {m : AM} {x x' : Value} {l l' : List Value} (h : VR m x x') (t : VRL m l l') : VRL m (x :: l) (x' :: l') :=
  ⟨by simp [t.1], fun i y hy => by
    cases i with
    | zero => simp at hy; subst hy; exact ⟨x', by simp, h⟩
    | succ i => simp at hy; obtain ⟨y', h1, h2⟩ := t.2 i y hy; exact ⟨y', by simpa using h1, h2⟩⟩
theorem VRL.append {m : AM} {a a' b b' : List Value} (h : VRL m a a') (k : VRL m b b') : VRL m (a ++ b) (a' ++ b') := by
  refine ⟨by simp [h.1, k.1], fun i x hx => ?_⟩
  rw [List.getElem?_append] at hx
  rw [List.getElem?_append]
  by_cases hi : i < a.length
  · rw [if_pos hi] at hx; rw [if_pos (h.1 ▸ hi)]; exact h.2 i x hx
  · rw [if_neg hi] at hx; rw [if_neg (h.1 ▸ hi), ← h.1]; exact k.2 _ x hx
theorem VRL.drop {m : AM} {a a' : List Value} (h : VRL m a a') (n : Nat) : VRL m (a.drop n) (a'.drop n) :=
  ⟨by simp [h.1], fun i x hx => by rw [List.getElem?_drop] at hx ⊢; exact h.2 _ x hx⟩
theorem VRL.take {m : AM} {a a' : List Value} (h : VRL m a a') (n : Nat) : VRL m (a.take n) (a'.take n) := by
  refine ⟨by simp [h.1], fun i x hx => ?_⟩
  rw [List.getElem?_take] at hx ⊢
  by_cases hi : i < n
  · rw [if_pos hi] at hx ⊢; exact h.2 _ x hx
  · rw [if_neg hi] at hx; cases hx
theorem VRL.of_array {m : AM} {a a' : Array Value} (hs : a.size = a'.size) (h : ∀ i : Nat, VR m (a[i]?.getD undef) (a'[i]?.getD undef)) : VRL m a.toList a'.toList := by
  refine ⟨by simpa using hs, fun i x hx => ?_⟩
  rw [Array.getElem?_toList] at hx
  have hi : i < a.size := (Array.getElem?_eq_some_iff.1 hx).1
  have hk := h i
  rw [hx, Array.getElem?_eq_getElem (hs ▸ hi)] at hk
  exact ⟨a'[i]'(hs ▸ hi), by rw [Array.getElem?_toList, Array.getElem?_eq_getElem (hs ▸ hi)], hk⟩
theorem VRL.at {m : AM} {a a' : List Value} (h : VRL m a a') (i : Nat) : VR m (a[i]?.getD Go.undef) (a'[i]?.getD Go.undef) := by
  rcases Nat.lt_or_ge i a.length with hi | hi
  · obtain ⟨x', h1, h2⟩ := h.2 i a[i] (List.getElem?_eq_getElem hi)
    rw [h1, List.getElem?_eq_getElem hi]; exact h2
  · rw [List.getElem?_eq_none hi, List.getElem?_eq_none (h.1 ▸ hi)]; exact VR.undef m
theorem VRL.agg {m : AM} {a a' : List Value} (h : VRL m a a') : VR m (.agg a.toArray) (.agg a'.toArray) := .agg (by simpa using h.1) (fun i => by simpa using h.at i)
theorem VRL.tuple {m : AM} {a a' : List Value} (h : VRL m a a') : VR m (.tuple a.toArray) (.tuple a'.toArray) := .tuple (by simpa using h.1) (fun i => by simpa using h.at i)
theorem VRL.set {m : AM} {a a' : List Value} (h : VRL m a a') {x x' : Value} (hx : VR m x x') (n : Nat) : VRL m (a.set n x) (a'.set n x') := by
  refine ⟨by simp [h.1], fun i y hy => ?_⟩
  rw [List.getElem?_set] at hy ⊢
  by_cases hi : n = i
  · subst hi
    rw [if_pos rfl] at hy ⊢
    by_cases hl : n < a.length
    · rw [if_pos hl] at hy; injection hy with hy; subst hy; exact ⟨x', by rw [if_pos (h.1 ▸ hl)], hx⟩
    · rw [if_neg hl] at hy; cases hy
  · rw [if_neg hi] at hy ⊢; exact h.2 i y hy
theorem VRL.flat {m : AM} {l : List Value} (h : ∀ x ∈ l, flat x = true) : VRL m l l := ⟨rfl, fun i x hx => ⟨x, hx, .fl (h x (List.mem_of_getElem? hx))⟩⟩

/-- the cells of a value -/
def cellsL (v : Value) : List Value := v.cells.toList
theorem VR.cells {m : AM} {v v' : Value} (h : VR m v v') (hj : (cellsL v).all isCell = true) : VRL m (cellsL v) (cellsL v') := by
  cases h with
  | jk v => simp [cellsL, Value.cells, junk, isCell] at hj
  | fl h => exact ⟨rfl, fun i x hx => ⟨x, hx, by
      cases v <;> simp_all [cellsL, Value.cells, Go.Lay.flat] <;> (obtain ⟨rfl⟩ := List.mem_singleton.1 (List.mem_of_getElem? hx); exact .fl (by simp_all [Go.Lay.flat]))⟩⟩
  | agg hs h => exact VRL.of_array hs h
  | tuple hs h => simp [cellsL, Value.cells, isCell] at hj
  | ptr h => exact .cons (.ptr h) (.nil m)
  | sl h ho hl ht => exact .cons (.sl h ho hl ht) (.nil m)
  | iface h => exact .cons (.iface h) (.nil m)
  | func a b c d => exact .cons (.func a b c d) (.nil m)

/-! ### abstract memory -/
structure ABlk where
  cells : List Value
  elem : TypeId
  own : Bool
structure AH where
  n : Nat
  get : Nat → Option ABlk
def AH.alloc (α : AH) (b : ABlk) : AH := ⟨α.n + 1, fun i => if i = α.n then some b else α.get i⟩
def AH.set (α : AH) (id : Nat) (b : Option ABlk) : AH := ⟨α.n, fun i => if i = id then b else α.get i⟩
@[simp] theorem AH.alloc_n (α : AH) (b : ABlk) : (α.alloc b).n = α.n + 1 := rfl
@[simp] theorem AH.set_n (α : AH) (i : Nat) (b : Option ABlk) : (α.set i b).n = α.n := rfl
@[simp] theorem AH.alloc_get (α : AH) (b : ABlk) : (α.alloc b).get α.n = some b := by simp [AH.alloc]
theorem AH.alloc_get_ne (α : AH) (b : ABlk) {i : Nat} (h : i ≠ α.n) : (α.alloc b).get i = α.get i := by simp [AH.alloc, h]
@[simp] theorem AH.set_get (α : AH) (i : Nat) (b : Option ABlk) : (α.set i b).get i = b := by simp [AH.set]
theorem AH.set_get_ne (α : AH) (b : Option ABlk) {i j : Nat} (h : i ≠ j) : (α.set j b).get i = α.get i := by simp [AH.set, h]

def setL : List Value → Nat → List Value → List Value
  | l, _, [] => l
  | l, o, v :: vs => setL (l.set o v) (o + 1) vs
theorem length_setL : ∀ (vs : List Value) (l : List Value) (o : Nat), (setL l o vs).length = l.length
  | [], _, _ => rfl
  | v :: vs, l, o => by rw [setL, length_setL vs]; simp
theorem get_setL : ∀ (vs : List Value) (l : List Value) (o i : Nat), o + vs.length ≤ l.length →
    (setL l o vs)[i]? = if o ≤ i ∧ i < o + vs.length then vs[i - o]? else l[i]?
  | [], l, o, i, _ => by rw [setL, if_neg (by simp only [List.length_nil]; omega)]
  | v :: vs, l, o, i, h => by
    simp only [List.length_cons] at h
    rw [setL, get_setL vs _ _ _ (by simp; omega)]
    by_cases h1 : o + 1 ≤ i ∧ i < o + 1 + vs.length
    · rw [if_pos h1, if_pos (by simp; omega), show i - o = (i - (o + 1)) + 1 from by omega]; simp
    · rw [if_neg h1]
      by_cases h2 : i = o
      · subst h2
        rw [if_pos (by simp), List.getElem?_set_self (by omega)]; simp
      · rw [if_neg (by simp; omega), List.getElem?_set_ne (Ne.symm h2)]

structure Rel (P : Program) (G : World) (m : AM) (α : AH) (w : World) : Prop where
  n : m.n = α.n
  below : Below G.heap.size G w
  lt : ∀ id b, α.get id = some b → id < α.n
  cell : ∀ id b, α.get id = some b → ∀ x ∈ b.cells, isCell x = true
  read : ∀ id b, α.get id = some b → ∀ (i : Nat) (x : Value), b.cells[i]? = some x → ∃ x', w.cell? ⟨m.b id, m.base id + i, none⟩ = some x' ∧ VR m x x'
  szs : ∀ id b, α.get id = some b → m.sz id = P.cellsOf b.elem
  ro : ∀ id b, α.get id = some b → b.own = false → m.b id < G.heap.size
  own : ∀ id b, α.get id = some b → b.own = true → G.heap.size ≤ m.b id ∧ m.b id < w.heap.size ∧ m.sz id = P.cellsOf b.elem ∧ m.base id + b.cells.length ≤ m.top id ∧
    ∀ o, o < m.top id → (w.cell? ⟨m.b id, o, none⟩).isSome = true ∧ w.frozen? ⟨m.b id, o, none⟩ = false
  apart : ∀ id id' b b', α.get id = some b → α.get id' = some b' → b.own = true → b'.own = true → m.b id = m.b id' → id = id'

/-- A new block. -/
def AM.push (m : AM) (b base top sz : Nat) : AM :=
  ⟨m.n + 1, fun i => if i = m.n then b else m.b i, fun i => if i = m.n then base else m.base i, fun i => if i = m.n then top else m.top i, fun i => if i = m.n then sz else m.sz i⟩
theorem AM.le_push (m : AM) (b base top sz : Nat) : m.le (m.push b base top sz) :=
  ⟨Nat.le_succ _, fun i h => if_neg (Nat.ne_of_lt h), fun i h => if_neg (Nat.ne_of_lt h), fun i h => if_neg (Nat.ne_of_lt h), fun i h => if_neg (Nat.ne_of_lt h)⟩

theorem frozen_alloc_old (w : World) (o : Obj) {a : Addr} (h : a.block < w.heap.size) : (w.alloc o).frozen? a = w.frozen? a :=
  World.frozen?_of_block (Below.heap_alloc w o a.block h)
theorem cell_alloc_old (w : World) (o : Obj) {a : Addr} (h : a.block < w.heap.size) : (w.alloc o).cell? a = w.cell? a :=
  World.cell?_of_block (Below.heap_alloc w o a.block h)
theorem cell_alloc_new (w : World) (c : Array Value) (e : TypeId) (i : Nat) : (w.alloc (.cells c e)).cell? ⟨w.heap.size, i, none⟩ = c[i]? := by
  unfold World.cell? World.alloc
  simp
theorem frozen_alloc_new (w : World) (c : Array Value) (e : TypeId) (i : Nat) : (w.alloc (.cells c e)).frozen? ⟨w.heap.size, i, none⟩ = false := by
  unfold World.frozen? World.alloc
  simp

theorem Rel.blk_lt {P : Program} {G : World} {m : AM} {α : AH} {w : World} (h : Rel P G m α w) {id : Nat} {b : ABlk} (hb : α.get id = some b) : m.b id < w.heap.size := by
  cases ho : b.own with
  | true => exact (h.own id b hb ho).2.1
  | false => exact Nat.lt_of_lt_of_le (h.ro id b hb ho) h.below.size

/-- Allocation of a row whose first cells are told; the rest is spare room. -/
theorem Rel.alloc {P : Program} {G : World} {m : AM} {α : AH} {w : World} (h : Rel P G m α w) (l : List Value) (c : Array Value) (e : TypeId)
    (hl : ∀ (i : Nat) (x : Value), l[i]? = some x → ∃ x', c[i]? = some x' ∧ VR m x x') (hle : l.length ≤ c.size) (hc : ∀ x ∈ l, isCell x = true) :
    Rel P G (m.push w.heap.size 0 c.size (P.cellsOf e)) (α.alloc ⟨l, e, true⟩) (w.alloc (.cells c e)) := by
  have hle' := AM.le_push m w.heap.size 0 c.size (P.cellsOf e)
  have hn := h.n
  have old : ∀ id b, (α.alloc ⟨l, e, true⟩).get id = some b → id ≠ α.n → α.get id = some b := fun id b hb hne => by rwa [AH.alloc_get_ne α _ hne] at hb
  have new : ∀ id b, (α.alloc ⟨l, e, true⟩).get id = some b → id = α.n → b = ⟨l, e, true⟩ := fun id b hb he => by subst he; rw [AH.alloc_get] at hb; exact (Option.some.inj hb).symm
  have mb : ∀ id, id ≠ α.n → (m.push w.heap.size 0 c.size (P.cellsOf e)).b id = m.b id := fun id hne => if_neg (by rw [hn]; exact hne)
  have mbase : ∀ id, id ≠ α.n → (m.push w.heap.size 0 c.size (P.cellsOf e)).base id = m.base id := fun id hne => if_neg (by rw [hn]; exact hne)
  have mtop : ∀ id, id ≠ α.n → (m.push w.heap.size 0 c.size (P.cellsOf e)).top id = m.top id := fun id hne => if_neg (by rw [hn]; exact hne)
  have msz : ∀ id, id ≠ α.n → (m.push w.heap.size 0 c.size (P.cellsOf e)).sz id = m.sz id := fun id hne => if_neg (by rw [hn]; exact hne)
  have nb : (m.push w.heap.size 0 c.size (P.cellsOf e)).b α.n = w.heap.size := if_pos hn.symm
  have nbase : (m.push w.heap.size 0 c.size (P.cellsOf e)).base α.n = 0 := if_pos hn.symm
  have ntop : (m.push w.heap.size 0 c.size (P.cellsOf e)).top α.n = c.size := if_pos hn.symm
  have nsz : (m.push w.heap.size 0 c.size (P.cellsOf e)).sz α.n = P.cellsOf e := if_pos hn.symm
  refine ⟨by simp [AM.push, hn], h.below.alloc h.below.size _, ?_, ?_, ?_, ?_, ?_, ?_, ?_⟩
  · intro id b hb
    by_cases he : id = α.n
    · simp [he]
    · have := h.lt id b (old id b hb he); simp; omega
  · intro id b hb x hx
    by_cases he : id = α.n
    · rw [new id b hb he] at hx; exact hc x hx
    · exact h.cell id b (old id b hb he) x hx
  · intro id b hb i x hx
    by_cases he : id = α.n
    · rw [new id b hb he] at hx
      obtain ⟨x', h1, h2⟩ := hl i x hx
      subst he
      rw [nb, nbase, Nat.zero_add]
      exact ⟨x', by rw [cell_alloc_new]; exact h1, h2.mono hle'⟩
    · obtain ⟨x', h1, h2⟩ := h.read id b (old id b hb he) i x hx
      rw [mb id he, mbase id he]
      exact ⟨x', by rw [cell_alloc_old w _ (h.blk_lt (old id b hb he))]; exact h1, h2.mono hle'⟩
  · intro id b hb
    by_cases he : id = α.n
    · rw [new id b hb he]; subst he; exact nsz
    · rw [msz id he]; exact h.szs id b (old id b hb he)
  · intro id b hb ho
    by_cases he : id = α.n
    · rw [new id b hb he] at ho; cases ho
    · rw [mb id he]; exact h.ro id b (old id b hb he) ho
  · intro id b hb ho
    by_cases he : id = α.n
    · have hb' := new id b hb he
      subst he; subst hb'
      rw [nb, nbase, ntop, nsz]
      refine ⟨h.below.size, by simp, rfl, by simpa using hle, fun o ho => ⟨?_, frozen_alloc_new w c e o⟩⟩
      rw [cell_alloc_new, Array.getElem?_eq_getElem ho]; rfl
    · obtain ⟨h1, h2, h3, h4, h5⟩ := h.own id b (old id b hb he) ho
      rw [mb id he, mbase id he, mtop id he, msz id he]
      refine ⟨h1, by simp; omega, h3, h4, fun o ho => ?_⟩
      rw [cell_alloc_old w _ h2, frozen_alloc_old w _ h2]; exact h5 o ho
  · intro id id' b b' hb hb' ho ho' heq
    by_cases he : id = α.n
    · by_cases he' : id' = α.n
      · omega
      · subst he
        rw [nb, mb id' he'] at heq
        have := (h.own id' b' (old id' b' hb' he') ho').2.1
        omega
    · by_cases he' : id' = α.n
      · subst he'
        rw [nb, mb id he] at heq
        have := (h.own id b (old id b hb he) ho).2.1
        omega
      · rw [mb id he, mb id' he'] at heq
        exact h.apart id id' b b' (old id b hb he) (old id' b' hb' he') ho ho' heq

theorem Rel.drew {P : Program} {G : World} {m : AM} {α : AH} {w : World} (h : Rel P G m α w) (k : Nat) : Rel P G m α { w with drawn := k } :=
  ⟨h.n, ⟨h.below.os, h.below.tape, h.below.output, h.below.size, h.below.block⟩, h.lt, h.cell, h.read, h.szs, h.ro, h.own, h.apart⟩

theorem Rel.kill {P : Program} {G : World} {m : AM} {α : AH} {w : World} (h : Rel P G m α w) (id : Nat) : Rel P G m (α.set id none) w := by
  have old : ∀ i b, (α.set id none).get i = some b → α.get i = some b := fun i b hb => by
    by_cases he : i = id
    · subst he; simp at hb
    · rwa [AH.set_get_ne _ _ he] at hb
  exact ⟨h.n, h.below, fun i b hb => h.lt i b (old i b hb), fun i b hb => h.cell i b (old i b hb), fun i b hb => h.read i b (old i b hb), fun i b hb => h.szs i b (old i b hb), fun i b hb => h.ro i b (old i b hb),
    fun i b hb => h.own i b (old i b hb), fun i j b c hb hc => h.apart i j b c (old i b hb) (old j c hc)⟩

theorem below_setCells {B : Nat} {a : World} (b : Nat) (hb : B ≤ b) : ∀ (vs : List Value) (o : Nat) (w : World), Below B a w → Below B a (w.setCells b o vs)
  | [], _, _, h => h
  | v :: vs, o, w, h => below_setCells b hb vs (o + 1) _ (h.setCell (p := ⟨b, o, none⟩) hb v)
theorem size_setCells (b : Nat) : ∀ (vs : List Value) (o : Nat) (w : World), (w.setCells b o vs).heap.size = w.heap.size
  | [], _, _ => rfl
  | v :: vs, o, w => by rw [World.setCells, size_setCells b vs]; simp [World.setCell]
theorem setCells_far (w : World) (b o : Nat) (vs : List Value) (a : Addr) (h : a.block ≠ b) : (w.setCells b o vs).cell? a = w.cell? a :=
  World.cell?_setCells_out b vs o w a fun e => absurd e h

/-- What stays when cells of one own block are written: all else. -/
theorem Rel.store {P : Program} {G : World} {m : AM} {α : AH} {w : World} (h : Rel P G m α w) {id : Nat} {b : ABlk} (hb : α.get id = some b) (ho : b.own = true)
    (off : Nat) (vs vs' : List Value) (hv : VRL m vs vs') (hc : ∀ x ∈ vs, isCell x = true) (hfit : off + vs.length ≤ b.cells.length) :
    Rel P G m (α.set id (some { b with cells := setL b.cells off vs })) (w.setCells (m.b id) (m.base id + off) vs') := by
  obtain ⟨o1, o2, o3, o4, o5⟩ := h.own id b hb ho
  have hfar : ∀ i c, α.get i = some c → i ≠ id → m.b i ≠ m.b id := fun i c hi hne he => by
    cases hoc : c.own with
    | true => exact hne (h.apart i id c b hi hb hoc ho he)
    | false => have := h.ro i c hi hoc; omega
  have old : ∀ i c, (α.set id (some { b with cells := setL b.cells off vs })).get i = some c → i ≠ id → α.get i = some c := fun i c hi hne => by rwa [AH.set_get_ne _ _ hne] at hi
  have new : ∀ c, (α.set id (some { b with cells := setL b.cells off vs })).get id = some c → c = { b with cells := setL b.cells off vs } := fun c hc => by
    rw [AH.set_get] at hc; exact (Option.some.inj hc).symm
  have hin := World.cell?_setCells_in (m.b id) vs' (m.base id + off) w (fun j hj => (o5 _ (by have := hv.1; omega)).1)
  refine ⟨h.n, below_setCells _ o1 vs' _ w h.below, ?_, ?_, ?_, ?_, ?_, ?_, ?_⟩
  · intro i c hi
    by_cases he : i = id
    · subst he; exact h.lt i b hb
    · exact h.lt i c (old i c hi he)
  · intro i c hi x hx
    by_cases he : i = id
    · subst he
      rw [new c hi] at hx
      obtain ⟨j, hj⟩ := List.mem_iff_getElem?.1 hx
      rw [get_setL vs _ _ _ hfit] at hj
      split at hj
      · exact hc x (List.mem_of_getElem? hj)
      · exact h.cell i b hb x (List.mem_of_getElem? hj)
    · exact h.cell i c (old i c hi he) x hx
  · intro i c hi j x hx
    by_cases he : i = id
    · subst he
      rw [new c hi] at hx
      simp only [get_setL vs _ _ _ hfit] at hx
      by_cases hj : off ≤ j ∧ j < off + vs.length
      · rw [if_pos hj] at hx
        obtain ⟨x', h1, h2⟩ := hv.2 _ x hx
        have hlt : j - off < vs'.length := (List.getElem?_eq_some_iff.1 h1).1
        refine ⟨x', ?_, h2⟩
        have := hin (j - off) hlt
        rw [show m.base i + off + (j - off) = m.base i + j from by omega] at this
        rw [this, ← h1, List.getElem?_eq_getElem hlt]
      · rw [if_neg hj] at hx
        obtain ⟨x', h1, h2⟩ := h.read i b hb j x hx
        refine ⟨x', ?_, h2⟩
        rw [World.cell?_setCells_out _ _ _ _ _ (fun _ _ => by have := hv.1; simp only; omega)]
        exact h1
    · obtain ⟨x', h1, h2⟩ := h.read i c (old i c hi he) j x hx
      exact ⟨x', by rw [setCells_far _ _ _ _ _ (hfar i c (old i c hi he) he)]; exact h1, h2⟩
  · intro i c hi
    by_cases he : i = id
    · subst he; rw [new c hi]; exact h.szs i b hb
    · exact h.szs i c (old i c hi he)
  · intro i c hi hoc
    by_cases he : i = id
    · subst he; rw [new c hi] at hoc; rw [ho] at hoc; cases hoc
    · exact h.ro i c (old i c hi he) hoc
  · intro i c hi hoc
    have key : ∀ i', (w.setCells (m.b id) (m.base id + off) vs').frozen? ⟨m.b i', 0, none⟩ = w.frozen? ⟨m.b i', 0, none⟩ := fun i' => World.frozen?_setCells _ _ _ _ _
    by_cases he : i = id
    · subst he
      rw [new c hi]
      refine ⟨o1, by rw [size_setCells]; exact o2, o3, by simpa [length_setL] using o4, fun o hlt => ⟨?_, ?_⟩⟩
      · exact World.isSome_setCells _ _ _ _ _ (o5 o hlt).1
      · rw [World.frozen?_setCells]; exact (o5 o hlt).2
    · obtain ⟨q1, q2, q3, q4, q5⟩ := h.own i c (old i c hi he) hoc
      refine ⟨q1, by rw [size_setCells]; exact q2, q3, q4, fun o hlt => ⟨?_, ?_⟩⟩
      · exact World.isSome_setCells _ _ _ _ _ (q5 o hlt).1
      · rw [World.frozen?_setCells]; exact (q5 o hlt).2
  · intro i j c d hi hj hoc hod heq
    have h1 : ∃ c', α.get i = some c' ∧ c'.own = true := by
      by_cases he : i = id
      · subst he; exact ⟨b, hb, ho⟩
      · exact ⟨c, old i c hi he, hoc⟩
    have h2 : ∃ c', α.get j = some c' ∧ c'.own = true := by
      by_cases he : j = id
      · subst he; exact ⟨b, hb, ho⟩
      · exact ⟨d, old j d hj he, hod⟩
    obtain ⟨c', a1, a2⟩ := h1
    obtain ⟨d', b1, b2⟩ := h2
    exact h.apart i j c' d' a1 b1 a2 b2 heq

/-- An append that stays in its block: the old id is gone, a new one has the block. -/
theorem Rel.grow {P : Program} {G : World} {m : AM} {α : AH} {w : World} (h : Rel P G m α w) {id : Nat} {b : ABlk} (hb : α.get id = some b) (ho : b.own = true)
    (off n0 o' : Nat) (vs vs' : List Value) (hv : VRL m vs vs') (hc : ∀ x ∈ vs, isCell x = true) (hoff : 0 < n0 → o' = m.base id + off) (h0 : off + n0 ≤ b.cells.length ∨ n0 = 0)
    (hfit : o' + n0 + vs.length ≤ m.top id) :
    Rel P G (m.push (m.b id) o' (m.top id) (m.sz id)) ((α.set id none).alloc ⟨(b.cells.drop off).take n0 ++ vs, b.elem, true⟩) (w.setCells (m.b id) (o' + n0) vs') := by
  obtain ⟨o1, o2, o3, o4, o5⟩ := h.own id b hb ho
  have hn := h.n
  have hid := h.lt id b hb
  have hle' := AM.le_push m (m.b id) o' (m.top id) (m.sz id)
  have hnn : ((α.set id none).alloc ⟨(b.cells.drop off).take n0 ++ vs, b.elem, true⟩).n = α.n + 1 := rfl
  have old : ∀ i c, ((α.set id none).alloc ⟨(b.cells.drop off).take n0 ++ vs, b.elem, true⟩).get i = some c → i ≠ α.n → α.get i = some c ∧ i ≠ id := fun i c hi hne => by
    rw [AH.alloc_get_ne _ _ (by simpa using hne)] at hi
    by_cases he : i = id
    · subst he; simp at hi
    · rw [AH.set_get_ne _ _ he] at hi; exact ⟨hi, he⟩
  have new : ∀ c, ((α.set id none).alloc ⟨(b.cells.drop off).take n0 ++ vs, b.elem, true⟩).get α.n = some c → c = ⟨(b.cells.drop off).take n0 ++ vs, b.elem, true⟩ := fun c hi => by
    rw [show α.n = (α.set id none).n from rfl, AH.alloc_get] at hi; exact (Option.some.inj hi).symm
  have mb : ∀ i, i ≠ α.n → (m.push (m.b id) o' (m.top id) (m.sz id)).b i = m.b i := fun i hne => if_neg (by rw [hn]; exact hne)
  have mbase : ∀ i, i ≠ α.n → (m.push (m.b id) o' (m.top id) (m.sz id)).base i = m.base i := fun i hne => if_neg (by rw [hn]; exact hne)
  have mtop : ∀ i, i ≠ α.n → (m.push (m.b id) o' (m.top id) (m.sz id)).top i = m.top i := fun i hne => if_neg (by rw [hn]; exact hne)
  have msz : ∀ i, i ≠ α.n → (m.push (m.b id) o' (m.top id) (m.sz id)).sz i = m.sz i := fun i hne => if_neg (by rw [hn]; exact hne)
  have nb : (m.push (m.b id) o' (m.top id) (m.sz id)).b α.n = m.b id := if_pos hn.symm
  have nbase : (m.push (m.b id) o' (m.top id) (m.sz id)).base α.n = o' := if_pos hn.symm
  have ntop : (m.push (m.b id) o' (m.top id) (m.sz id)).top α.n = m.top id := if_pos hn.symm
  have nsz : (m.push (m.b id) o' (m.top id) (m.sz id)).sz α.n = m.sz id := if_pos hn.symm
  have hfar : ∀ i c, α.get i = some c → i ≠ id → m.b i ≠ m.b id := fun i c hi hne he => by
    cases hoc : c.own with
    | true => exact hne (h.apart i id c b hi hb hoc ho he)
    | false => have := h.ro i c hi hoc; omega
  have hin := World.cell?_setCells_in (m.b id) vs' (o' + n0) w (fun j hj => (o5 _ (by have := hv.1; omega)).1)
  have hlen0 : ((b.cells.drop off).take n0).length = n0 := by
    rcases h0 with h0 | h0
    · simp; omega
    · simp [h0]
  refine ⟨by rw [hnn]; simp [AM.push, hn], below_setCells _ o1 vs' _ w h.below, ?_, ?_, ?_, ?_, ?_, ?_, ?_⟩
  · intro i c hi
    rw [hnn]
    by_cases he : i = α.n
    · omega
    · have := h.lt i c (old i c hi he).1; omega
  · intro i c hi x hx
    by_cases he : i = α.n
    · subst he
      rw [new c hi] at hx
      rcases List.mem_append.1 hx with hx | hx
      · exact h.cell id b hb x (List.mem_of_mem_drop (List.mem_of_mem_take hx))
      · exact hc x hx
    · exact h.cell i c (old i c hi he).1 x hx
  · intro i c hi j x hx
    by_cases he : i = α.n
    · subst he
      rw [new c hi] at hx
      rw [nb, nbase]
      simp only at hx
      rw [List.getElem?_append, hlen0] at hx
      by_cases hj : j < n0
      · rw [if_pos hj, List.getElem?_take, if_pos hj, List.getElem?_drop] at hx
        obtain ⟨x', h1, h2⟩ := h.read id b hb _ x hx
        refine ⟨x', ?_, h2.mono hle'⟩
        rw [World.cell?_setCells_out _ _ _ _ _ (fun _ _ => by simp only; omega)]
        rw [show o' + j = m.base id + (off + j) from by have := hoff (by omega); omega]
        exact h1
      · rw [if_neg hj] at hx
        obtain ⟨x', h1, h2⟩ := hv.2 _ x hx
        have hlt : j - n0 < vs'.length := (List.getElem?_eq_some_iff.1 h1).1
        refine ⟨x', ?_, h2.mono hle'⟩
        have := hin (j - n0) hlt
        rw [show o' + n0 + (j - n0) = o' + j from by omega] at this
        rw [this, ← h1, List.getElem?_eq_getElem hlt]
    · obtain ⟨a1, a2⟩ := old i c hi he
      obtain ⟨x', h1, h2⟩ := h.read i c a1 j x hx
      rw [mb i he, mbase i he]
      exact ⟨x', by rw [setCells_far _ _ _ _ _ (hfar i c a1 a2)]; exact h1, h2.mono hle'⟩
  · intro i c hi
    by_cases he : i = α.n
    · subst he; rw [new c hi, nsz]; exact o3
    · rw [msz i he]; exact h.szs i c (old i c hi he).1
  · intro i c hi hoc
    by_cases he : i = α.n
    · subst he; rw [new c hi] at hoc; cases hoc
    · rw [mb i he]; exact h.ro i c (old i c hi he).1 hoc
  · intro i c hi hoc
    by_cases he : i = α.n
    · subst he
      rw [new c hi, nb, nbase, ntop, nsz]
      refine ⟨o1, by rw [size_setCells]; exact o2, o3, by rw [List.length_append, hlen0]; omega, fun o hlt => ⟨?_, ?_⟩⟩
      · exact World.isSome_setCells _ _ _ _ _ (o5 o hlt).1
      · rw [World.frozen?_setCells]; exact (o5 o hlt).2
    · obtain ⟨a1, a2⟩ := old i c hi he
      obtain ⟨q1, q2, q3, q4, q5⟩ := h.own i c a1 hoc
      rw [mb i he, mbase i he, mtop i he, msz i he]
      refine ⟨q1, by rw [size_setCells]; exact q2, q3, q4, fun o hlt => ⟨?_, ?_⟩⟩
      · exact World.isSome_setCells _ _ _ _ _ (q5 o hlt).1
      · rw [World.frozen?_setCells]; exact (q5 o hlt).2
  · intro i j c d hi hj hoc hod heq
    by_cases he : i = α.n
    · by_cases he' : j = α.n
      · omega
      · obtain ⟨a1, a2⟩ := old j d hj he'
        subst he
        rw [nb, mb j he'] at heq
        exact absurd heq.symm (hfar j d a1 a2)
    · obtain ⟨a1, a2⟩ := old i c hi he
      by_cases he' : j = α.n
      · subst he'
        rw [nb, mb i he] at heq
        exact absurd heq (hfar i c a1 a2)
      · obtain ⟨b1, b2⟩ := old j d hj he'
        rw [mb i he, mb j he'] at heq
        exact h.apart i j c d a1 b1 hoc hod heq

end Go.Lay

set_option linter.unusedVariables false
set_option linter.unusedSimpArgs false
namespace Go.Lay
open Go Go.RowKit

abbrev AS := Nat → Value
def upd (s : AS) (d : Nat) (v : Value) : AS := fun i => if i = d then v else s i
theorem upd_eq (s : AS) (d : Nat) (v : Value) (i : Nat) : upd s d v i = if i = d then v else s i := rfl

def ev (s : AS) : Operand → Value
  | .tmp t => s t
  | .const v => if flatD v then v else junk
  | .global _ => junk
  | .func f => .func (.func f) #[] #[]

theorem VR.flatD {m : AM} {v : Value} (h : flatD v = true) : VR m v v := by
  cases v <;> first
    | exact .fl h
    | (rename_i cs
       refine .agg rfl fun i => ?_
       rcases Nat.lt_or_ge i cs.size with hi | hi
       · rw [Array.getElem?_eq_getElem hi]
         simp only [Go.Lay.flatD, List.all_eq_true, Bool.and_eq_true] at h
         exact .fl (h cs[i] (Array.mem_toList_iff.2 (Array.getElem_mem hi))).1
       · rw [Array.getElem?_eq_none hi]; exact VR.undef m)

theorem VR.eq_flatD {m : AM} {v v' : Value} (h : VR m v v') (hf : Go.Lay.flatD v = true) : v' = v := by
  cases h with
  | agg hs h =>
    rename_i cs cs'
    simp only [Go.Lay.flatD, List.all_eq_true, Bool.and_eq_true] at hf
    congr 1
    apply Array.ext hs.symm
    intro i h1 h2
    have := h i
    rw [Array.getElem?_eq_getElem h1, Array.getElem?_eq_getElem h2] at this
    exact this.eq_flat (hf _ (Array.mem_toList_iff.2 (Array.getElem_mem h2))).1
  | jk v => exact absurd hf (by simp [Go.Lay.flatD, Go.Lay.flat, junk])
  | fl h => rfl
  | ptr h => exact absurd hf (by simp [Go.Lay.flatD, Go.Lay.flat])
  | sl h => exact absurd hf (by simp [Go.Lay.flatD, Go.Lay.flat])
  | iface h => exact absurd hf (by simp [Go.Lay.flatD, Go.Lay.flat])
  | tuple hs h => exact (VR.tuple hs h).eq_flat hf
  | func a b c d => exact (VR.func a b c d).eq_flat hf

structure SR (m : AM) (N : Nat) (s : AS) (a : Act) : Prop where
  size : a.tmps.size = N
  defers : a.defers = []
  t : ∀ i : Nat, VR m (s i) (a.tmps[i]?.getD undef)

theorem SR.mono {m m' : AM} (hm : m.le m') {N : Nat} {s : AS} {a : Act} (h : SR m N s a) : SR m' N s a := ⟨h.size, h.defers, fun i => (h.t i).mono hm⟩
theorem SR.put {m : AM} {N : Nat} {s : AS} {a : Act} (h : SR m N s a) {d : Nat} (hd : d < N) {v v' : Value} (hv : VR m v v') : SR m N (upd s d v) (a.put (some d) v') := by
  refine ⟨by simp [Act.put, h.size], h.defers, fun i => ?_⟩
  simp only [Act.put, upd]
  by_cases hi : i = d
  · subst hi; rw [if_pos rfl, Array.getElem?_setIfInBounds_self_of_lt (by rw [h.size]; exact hd)]; exact hv
  · rw [if_neg hi, Array.getElem?_setIfInBounds_ne (Ne.symm hi)]; exact h.t i
theorem SR.ev {m : AM} {N : Nat} {s : AS} {a : Act} (h : SR m N s a) (x : Operand) : VR m (ev s x) (a.eval x) := by
  cases x with
  | tmp t => simpa [Go.Lay.ev, Act.eval] using h.t t
  | const v =>
    simp only [Go.Lay.ev, Act.eval]
    split
    · rename_i hf; exact VR.flatD hf
    · exact .jk _
  | global g => exact .jk _
  | func f => exact .fl rfl

/-! ### what is asked of types -/
def sizeA (P : Program) (t : TypeId) : Option Nat := (P.info? t).map (·.size)
def bytesA (P : Program) (t : TypeId) : Nat := P.bytesOf t
def zeroA (P : Program) (t : TypeId) : Option Value := (P.info? t).bind (·.zero)
def aggA (P : Program) (t : TypeId) : Option Bool := (P.underlying t).map fun | .struct _ | .array _ _ => true | _ => false
theorem run_sizeA {P : Program} {t : TypeId} {n : Nat} (h : sizeA P t = some n) (w : World) : (sizeOf t).run P w = .ok n w := by
  unfold sizeA at h
  cases hi : P.info? t with
  | none => simp [hi] at h
  | some i => simp [hi] at h; subst h; simp [sizeOf, typeInfo, hi]
theorem cellsOf_sizeA {P : Program} {t : TypeId} {n : Nat} (h : sizeA P t = some n) : P.cellsOf t = n := by simp only [Program.cellsOf]; unfold sizeA at h; rw [h]; rfl
theorem run_aggA {P : Program} {t : TypeId} {b : Bool} (h : aggA P t = some b) (w : World) : (isAgg t).run P w = .ok b w := by
  unfold aggA at h
  cases hu : P.underlying t with
  | none => simp [hu] at h
  | some d => simp [hu] at h; subst h; simp [isAgg, run_underlying hu]; cases d <;> simp
theorem run_zeroA {P : Program} {t : TypeId} {z : Value} (h : zeroA P t = some z) (w : World) : (zeroValue t).run P w = .ok z w := by
  unfold zeroA at h
  cases hi : P.info? t with
  | none => simp [hi] at h
  | some i => simp [hi] at h; simp [zeroValue, typeInfo, hi, h]

/-! ### reading and writing -/
def aload (P : Program) (t : TypeId) (v : Value) (α : AH) : Option Value :=
  match v with
  | .pointer (some ⟨id, off, none⟩) =>
    match α.get id with
    | some b =>
      match aggA P t with
      | some false => b.cells[off]?
      | some true => match sizeA P t with
        | some n => if off + n ≤ b.cells.length then some (.agg ((b.cells.drop off).take n).toArray) else none
        | none => none
      | none => none
    | none => none
  | _ => none

theorem addr_add (b o n : Nat) : (⟨b, o, none⟩ : Addr).add n = ⟨b, o + n, none⟩ := by unfold Addr.add; split <;> simp_all

theorem run_load_cell {P : Program} {w : World} {a : Addr} {v : Value} (h : w.cell? a = some v) : (load a).run P w = .ok v w := by
  simp [load, Sem.run, h]

theorem VR.ptr_inv {m : AM} {id off : Nat} {v' : Value} (h : VR m (.pointer (some ⟨id, off, none⟩)) v') : id < m.n ∧ v' = .pointer (some ⟨m.b id, m.base id + off, none⟩) := by
  cases h with
  | fl h => simp [Go.Lay.flat] at h
  | ptr h => exact ⟨h, rfl⟩

theorem load_sound {P : Program} {G : World} {m : AM} {α : AH} {w : World} (h : Rel P G m α w) {t : TypeId} {p p' v : Value} (hp : VR m p p') (hl : aload P t p α = some v) :
    ∃ v', (Instr.loadAt t p').run P w = .ok v' w ∧ VR m v v' := by
  unfold aload at hl
  split at hl
  · rename_i id off
    obtain ⟨hid, rfl⟩ := hp.ptr_inv
    split at hl
    · rename_i b hb
      split at hl
      · rename_i hagg
        obtain ⟨v', h1, h2⟩ := h.read id b hb off v hl
        exact ⟨v', by simp [Instr.loadAt, Instr.sureAddr, loadVar, run_aggA hagg, run_load_cell h1, h1], h2⟩
      · rename_i hagg
        split at hl
        · rename_i n hn
          split at hl
          · rename_i hfit
            injection hl with hl
            subst hl
            have hlen : ((b.cells.drop off).take n).length = n := by simp; omega
            have hex : ∀ j : Nat, ∃ x', j < n → w.cell? ⟨m.b id, m.base id + off + j, none⟩ = some x' ∧ VR m ((b.cells.drop off).take n)[j]?.get! x' := fun j => by
              by_cases hj : j < n
              · obtain ⟨x', h1, h2⟩ := h.read id b hb (off + j) b.cells[off + j] (List.getElem?_eq_getElem (by omega))
                refine ⟨x', fun _ => ⟨by rw [Nat.add_assoc]; exact h1, ?_⟩⟩
                rw [List.getElem?_take, if_pos hj, List.getElem?_drop, List.getElem?_eq_getElem (by omega)]
                exact h2
              · exact ⟨undef, fun hc => absurd hc hj⟩
            obtain ⟨f, hf⟩ := Classical.axiomOfChoice hex
            have hrun := run_loadCells (P := P) w ⟨m.b id, m.base id + off, none⟩ n f (fun j hj => by rw [addr_add]; exact (hf j hj).1)
            refine ⟨.agg ((List.range n).map f).toArray, ?_, ?_⟩
            · simp [Instr.loadAt, Instr.sureAddr, loadVar, run_aggA hagg, run_sizeA hn, hrun]
            · refine VRL.agg ⟨by simp; omega, fun i x hx => ?_⟩
              have hi : i < n := by have := (List.getElem?_eq_some_iff.1 hx).1; omega
              refine ⟨f i, by simp [hi], ?_⟩
              have := (hf i hi).2
              rw [hx] at this
              exact this
          · cases hl
        · cases hl
      · cases hl
    · cases hl
  · cases hl

def astore (P : Program) (t : TypeId) (p v : Value) (α : AH) : Option AH :=
  match p with
  | .pointer (some ⟨id, off, none⟩) =>
    match α.get id with
    | some b => if b.own = true ∧ (cellsL v).all isCell = true ∧ sizeA P t = some (cellsL v).length ∧ off + (cellsL v).length ≤ b.cells.length then
        some (α.set id (some { b with cells := setL b.cells off (cellsL v) })) else none
    | none => none
  | _ => none

theorem store_sound {P : Program} {G : World} {m : AM} {α α' : AH} {w : World} (h : Rel P G m α w) {t : TypeId} {p p' v v' : Value} (hp : VR m p p') (hv : VR m v v') (hl : astore P t p v α = some α') :
    ∃ w', (Instr.storeAt t p' v').run P w = .ok () w' ∧ Rel P G m α' w' := by
  unfold astore at hl
  split at hl
  · rename_i id off
    obtain ⟨hid, rfl⟩ := hp.ptr_inv
    split at hl
    · rename_i b hb
      split at hl
      · rename_i hc
        obtain ⟨ho, hall, hsz, hfit⟩ := hc
        injection hl with hl
        subst hl
        have hvl := hv.cells hall
        have hall' : ∀ x ∈ cellsL v', x.oneCell' = true := fun x hx => by
          obtain ⟨i, hi⟩ := List.mem_iff_getElem?.1 hx
          have hlt : i < (cellsL v).length := by have := (List.getElem?_eq_some_iff.1 hi).1; have := hvl.1; omega
          obtain ⟨x', h1, h2⟩ := hvl.2 i _ (List.getElem?_eq_getElem hlt)
          rw [hi] at h1
          injection h1 with h1
          subst h1
          exact isCell_one (h2.one (List.all_eq_true.1 hall _ (List.getElem_mem hlt)))
        obtain ⟨o1, o2, o3, o4, o5⟩ := h.own id b hb ho
        refine ⟨w.setCells (m.b id) (m.base id + off) (cellsL v'), ?_, h.store hb ho off _ _ hvl (fun x hx => List.all_eq_true.1 hall x hx) hfit⟩
        have hrun := run_storeCells_cells (P := P) (m.b id) (m.base id + off) (cellsL v') 0 w (fun j hj => (o5 _ (by have := hvl.1; omega)).1) (fun j hj => (o5 _ (by have := hvl.1; omega)).2) hall'
        have hs' : v'.cells.size = (cellsL v).length := by rw [hvl.1]; simp [cellsL]
        simp only [Instr.storeAt, Instr.sureAddr, storeVar, Sem.run_bind, Sem.run_pure, Result.andThen_ok, run_sizeA hsz, hs', ne_eq, not_true_eq_false, if_false]
        exact hrun
      · cases hl
    · cases hl
  · cases hl

/-! ### addresses -/
def afieldAddr (P : Program) (t : TypeId) (v : Value) (f : Nat) : Option Value :=
  match P.underlying t, v with
  | some (.struct fs), .pointer (some ⟨id, off, none⟩) =>
    match fs[f]? with
    | some fd => match sizeA P fd.type with
      | some (_ + 1) => some (.pointer (some ⟨id, off + fd.offset, none⟩))
      | _ => none
    | none => none
  | _, _ => none

theorem fieldAddr_sound {P : Program} {m : AM} {t : TypeId} {v v' r : Value} (hv : VR m v v') {f : Nat} (hl : afieldAddr P t v f = some r) :
    ∃ r', (∀ w, (Instr.fieldAt t v' f).run P w = .ok r' w) ∧ VR m r r' := by
  unfold afieldAddr at hl
  split at hl
  · rename_i fs id off hu
    obtain ⟨hid, rfl⟩ := hv.ptr_inv
    split at hl
    · rename_i fd hfd
      split at hl
      · rename_i k hk
        injection hl with hl
        subst hl
        refine ⟨.pointer (some ⟨m.b id, m.base id + off + fd.offset, none⟩), ?_, ?_⟩
        · intro w; simp [Instr.fieldAt, run_underlying hu, hfd, Instr.sureAddr, fieldPlace, run_sizeA hk, addr_add]
        · rw [Nat.add_assoc]; exact .ptr hid
      · cases hl
    · cases hl
  · cases hl

theorem VR.sl_inv {m : AM} {id off len c : Nat} {v' : Value} (h : VR m (.slice (some ⟨id, off, none⟩) len c) v') :
    id < m.n ∧ ∃ c' o', v' = .slice (some ⟨m.b id, o', none⟩) len c' ∧ (0 < len → o' = m.base id + off) ∧ len ≤ c' ∧ o' + c' * m.sz id ≤ m.top id := by
  cases h with
  | fl h => simp [Go.Lay.flat] at h
  | sl h ho hl ht => exact ⟨h, _, _, rfl, ho, hl, ht⟩

def aindexAddr (P : Program) (t : TypeId) (x i : Value) : Option Value :=
  match i with
  | .int _ n =>
    match P.underlying t, x with
    | some (.slice e), .slice (some ⟨id, off, none⟩) len _ => if 0 ≤ n ∧ n < (len : Int) then (sizeA P e).map fun sz => .pointer (some ⟨id, off + n.toNat * sz, none⟩) else none
    | some (.array len e), .pointer (some ⟨id, off, none⟩) => if 0 ≤ n ∧ n < (len : Int) then (sizeA P e).map fun sz => .pointer (some ⟨id, off + n.toNat * sz, none⟩) else none
    | _, _ => none
  | _ => none

theorem indexAddr_sound {P : Program} {m : AM} {t : TypeId} {x x' i i' r : Value} (hx : VR m x x') (hi : VR m i i') (hl : aindexAddr P t x i = some r) :
    ∃ r', (∀ w, (Instr.indexAt t x' i').run P w = .ok r' w) ∧ VR m r r' := by
  unfold aindexAddr at hl
  split at hl
  · rename_i k n
    obtain rfl := hi.eq_flat rfl
    split at hl
    · rename_i e id off len c hu
      obtain ⟨hid, c', o', rfl, ho, hle, htop⟩ := hx.sl_inv
      split at hl
      · rename_i hn
        cases hs : sizeA P e with
        | none => simp [hs] at hl
        | some sz =>
          simp [hs] at hl
          subst hl
          have := ho (by omega)
          subst this
          refine ⟨.pointer (some ⟨m.b id, m.base id + (off + n.toNat * sz), none⟩), fun w => ?_, .ptr hid⟩
          simp [Instr.indexAt, asIntOf, run_underlying hu, hn, run_sizeA hs, addr_add, Nat.add_assoc]
      · cases hl
    · rename_i len e id off hu
      obtain ⟨hid, rfl⟩ := hx.ptr_inv
      split at hl
      · rename_i hn
        cases hs : sizeA P e with
        | none => simp [hs] at hl
        | some sz =>
          simp [hs] at hl
          subst hl
          refine ⟨.pointer (some ⟨m.b id, m.base id + (off + n.toNat * sz), none⟩), fun w => ?_, .ptr hid⟩
          simp [Instr.indexAt, asIntOf, run_underlying hu, hn, run_sizeA hs, addr_add, Nat.add_assoc, Instr.sureAddr]
      · cases hl
    · cases hl
  · cases hl

/-! ### slices of slices and of strings -/
def abound (d : Nat) : Option Value → Option Nat
  | none => some d
  | some (.int _ n) => if 0 ≤ n then some n.toNat else none
  | _ => none
def aslice (P : Program) (t : TypeId) (x : Value) (lo hi mx : Option Value) (α : AH) : Option Value :=
  match P.underlying t, x with
  | some .string, .string s =>
    match mx, abound s.size hi, abound 0 lo with
    | none, some h, some l => if h ≤ s.size ∧ l ≤ h then some (.string (s.extract l h)) else none
    | _, _, _ => none
  | some (.slice e), .slice (some ⟨id, off, none⟩) len _ =>
    match abound len mx, abound len hi, abound 0 lo, sizeA P e with
    | some q, some h, some l, some sz => if (α.get id).map (fun b => P.cellsOf b.elem) = some sz ∧ q ≤ len ∧ h ≤ q ∧ l ≤ h ∧ (mx.isSome = true → hi.isSome = true) then some (.slice (some ⟨id, off + l * sz, none⟩) (h - l) 0) else none
    | _, _, _, _ => none
  | some (.slice e), .slice none 0 0 =>
    match abound 0 mx, abound 0 hi, abound 0 lo, sizeA P e with
    | some 0, some 0, some 0, some _ => if mx.isSome = true → hi.isSome = true then some (.slice none 0 0) else none
    | _, _, _, _ => none
  | _, _ => none

theorem abound_rel {m : AM} {d n : Nat} {o o' : Option Value} (h : abound d o = some n) (hr : ∀ v, o = some v → ∃ v', o' = some v' ∧ VR m v v') (hn : o = none → o' = none) :
    (o = none ∧ o' = none ∧ n = d) ∨ ∃ (k : IntKind), o = some (.int k (n : Int)) ∧ o' = some (.int k (n : Int)) := by
  cases o with
  | none => exact .inl ⟨rfl, hn rfl, by simpa [abound] using h.symm⟩
  | some v =>
    obtain ⟨v', rfl, hv⟩ := hr v rfl
    cases v <;> simp [abound] at h
    rename_i k i
    obtain ⟨h0, rfl⟩ := h
    obtain rfl := hv.eq_flat rfl
    exact .inr ⟨k, by rw [Int.toNat_of_nonneg h0], by rw [Int.toNat_of_nonneg h0]⟩

theorem run_sliceBound_in {P : Program} (w : World) (k : IntKind) (n y : Nat) (code : BoundsCode) (h : n ≤ y) : (Instr.sliceBound (.int k (n : Int)) y code).run P w = .ok n w := by
  simp [Instr.sliceBound, asIntOf, h]

theorem sliceBounds_run {P : Program} (w : World) (b : Bool) (len cap : Nat) (lo hi mx : Option Value) (l h q : Nat) (dq : Nat)
    (h1 : (mx = none ∧ q = dq) ∨ ∃ k : IntKind, mx = some (.int k (q : Int))) (h2 : (hi = none ∧ h = len) ∨ ∃ k : IntKind, hi = some (.int k (h : Int))) (h3 : (lo = none ∧ l = 0) ∨ ∃ k : IntKind, lo = some (.int k (l : Int)))
    (hq : q ≤ cap) (hh : h ≤ q) (hl : l ≤ h) (hm : mx.isSome = true → hi.isSome = true) :
    (Instr.sliceBounds b len cap lo hi mx).run P w = .ok (l, h, if mx.isSome then q else cap) w := by
  unfold Instr.sliceBounds
  rcases h1 with ⟨rfl, rfl⟩ | ⟨k1, rfl⟩
  · rcases h2 with ⟨rfl, rfl⟩ | ⟨k2, rfl⟩ <;> rcases h3 with ⟨rfl, rfl⟩ | ⟨k3, rfl⟩ <;> simp [run_sliceBound_in, hl, Nat.le_trans hh hq]
  · rcases h2 with ⟨rfl, rfl⟩ | ⟨k2, rfl⟩
    · simp at hm
    · rcases h3 with ⟨rfl, rfl⟩ | ⟨k3, rfl⟩ <;> simp [run_sliceBound_in, hl, hq, hh]

theorem slice_sound {P : Program} {G : World} {m : AM} {α : AH} {w : World} (H : Rel P G m α w) {t : TypeId} {x x' r : Value} {lo hi mx lo' hi' mx' : Option Value} (hx : VR m x x')
    (k1 : ∀ v, lo = some v → ∃ v', lo' = some v' ∧ VR m v v') (k1n : lo = none → lo' = none) (k2 : ∀ v, hi = some v → ∃ v', hi' = some v' ∧ VR m v v') (k2n : hi = none → hi' = none)
    (k3 : ∀ v, mx = some v → ∃ v', mx' = some v' ∧ VR m v v') (k3n : mx = none → mx' = none)
    (hl : aslice P t x lo hi mx α = some r) :
    ∃ r', (∀ w, (Instr.sliceAt t x' lo' hi' mx').run P w = .ok r' w) ∧ VR m r r' := by
  unfold aslice at hl
  split at hl
  · rename_i s hu
    obtain rfl := hx.eq_flat rfl
    split at hl
    · rename_i h l hh hlo
      split at hl
      · rename_i hc
        injection hl with hl
        subst hl
        have b2 := abound_rel hh k2 k2n
        have b1 := abound_rel hlo k1 k1n
        obtain rfl := k3n rfl
        refine ⟨.string (s.extract l h), fun w => ?_, .fl rfl⟩
        have hrun := sliceBounds_run (P := P) w false s.size s.size lo' hi' none l h s.size s.size (.inl ⟨rfl, rfl⟩) (b2.imp (fun z => ⟨z.2.1, z.2.2⟩) fun ⟨k, _, z⟩ => ⟨k, z⟩)
          (b1.imp (fun z => ⟨z.2.1, z.2.2⟩) fun ⟨k, _, z⟩ => ⟨k, z⟩) (Nat.le_refl _) hc.1 hc.2 (by simp)
        simp [Instr.sliceAt, Instr.slice, run_underlying hu, hrun]
      · cases hl
    · cases hl
  · rename_i e id off len c hu
    obtain ⟨hid, c', o', rfl, ho, hle, htop⟩ := hx.sl_inv
    split at hl
    · rename_i q h l sz hq hh hlo hs
      split at hl
      · rename_i hc
        obtain ⟨q0, q1, q2, q3, q4⟩ := hc
        injection hl with hl
        subst hl
        have b3 := abound_rel hq k3 k3n
        have b2 := abound_rel hh k2 k2n
        have b1 := abound_rel hlo k1 k1n
        have hm : mx'.isSome = true → hi'.isSome = true := fun hm => by
          rcases b3 with ⟨_, rfl, _⟩ | ⟨k, rfl, _⟩
          · cases hm
          · have := q4 rfl
            rcases b2 with ⟨rfl, _, _⟩ | ⟨k', _, rfl⟩
            · cases this
            · rfl
        have hrun := fun w => sliceBounds_run (P := P) w true len c' lo' hi' mx' l h q len (b3.imp (fun z => ⟨z.2.1, z.2.2⟩) fun ⟨k, _, z⟩ => ⟨k, z⟩) (b2.imp (fun z => ⟨z.2.1, z.2.2⟩) fun ⟨k, _, z⟩ => ⟨k, z⟩)
          (b1.imp (fun z => ⟨z.2.1, z.2.2⟩) fun ⟨k, _, z⟩ => ⟨k, z⟩) (by omega) q2 q3 hm
        have hszm : m.sz id = sz := by
          cases hb : α.get id with
          | none => simp [hb] at q0
          | some b => simp [hb] at q0; rw [H.szs id b hb, q0]
        generalize hM : (if mx'.isSome = true then q else c') = M at hrun
        have hMl : l ≤ M ∧ M ≤ c' ∧ h ≤ M := by rw [← hM]; split <;> omega
        have key : ∀ w, (Instr.sliceAt t (.slice (some ⟨m.b id, o', none⟩) len c') lo' hi' mx').run P w = .ok (.slice (if M = l then some ⟨m.b id, o', none⟩ else some ⟨m.b id, o' + l * sz, none⟩) (h - l) (M - l)) w := fun w => by
          simp [Instr.sliceAt, Instr.slice, run_underlying hu, hrun, run_sizeA hs, addr_add]
        refine ⟨_, key, ?_⟩
        by_cases hML : M = l
        · rw [if_pos hML]
          have h0 : h - l = 0 := by omega
          rw [h0]
          exact .sl hid (fun hp => absurd hp (by omega)) (by omega) (by rw [hML, Nat.sub_self, Nat.zero_mul]; exact Nat.le_trans (Nat.le_add_right _ _) htop)
        · rw [if_neg hML]
          refine .sl hid (fun hp => ?_) (by omega) ?_
          · have := ho (by omega); omega
          · rw [hszm] at htop ⊢
            have : l * sz + (M - l) * sz = M * sz := by rw [← Nat.add_mul]; congr 1; omega
            have h2 : M * sz ≤ c' * sz := Nat.mul_le_mul_right _ hMl.2.1
            omega
      · cases hl
    · cases hl
  · rename_i e hu
    obtain rfl := hx.eq_flat rfl
    split at hl
    · rename_i sz hq hh hlo hs
      split at hl
      · rename_i q4
        injection hl with hl
        subst hl
        have b3 := abound_rel hq k3 k3n
        have b2 := abound_rel hh k2 k2n
        have b1 := abound_rel hlo k1 k1n
        have hm : mx'.isSome = true → hi'.isSome = true := fun hm => by
          rcases b3 with ⟨_, rfl, _⟩ | ⟨k, rfl, _⟩
          · cases hm
          · have := q4 rfl
            rcases b2 with ⟨rfl, _, _⟩ | ⟨k', _, rfl⟩
            · cases this
            · rfl
        have hrun := fun w => sliceBounds_run (P := P) w true 0 0 lo' hi' mx' 0 0 0 0 (b3.imp (fun z => ⟨z.2.1, z.2.2⟩) fun ⟨k, _, z⟩ => ⟨k, z⟩) (b2.imp (fun z => ⟨z.2.1, z.2.2⟩) fun ⟨k, _, z⟩ => ⟨k, z⟩)
          (b1.imp (fun z => ⟨z.2.1, z.2.2⟩) fun ⟨k, _, z⟩ => ⟨k, z⟩) (by omega) (by omega) (by omega) hm
        refine ⟨.slice none 0 0, fun w => ?_, .fl rfl⟩
        simp [Instr.sliceAt, Instr.slice, run_underlying hu, hrun, run_sizeA hs]
      · cases hl
    · cases hl
  · cases hl

end Go.Lay

set_option linter.unusedVariables false
set_option linter.unusedSimpArgs false
namespace Go.Lay
open Go Go.RowKit

theorem push_new {m : AM} {α : AH} (hn : m.n = α.n) (b base top sz : Nat) : (m.push b base top sz).b α.n = b ∧ (m.push b base top sz).base α.n = base ∧ (m.push b base top sz).top α.n = top ∧ (m.push b base top sz).sz α.n = sz ∧ α.n < (m.push b base top sz).n :=
  ⟨if_pos hn.symm, if_pos hn.symm, if_pos hn.symm, if_pos hn.symm, by simp [AM.push, hn]⟩

/-! ### boxes -/
def abox (e : TypeId) (v : Value) (α : AH) : Option (Value × AH) :=
  if (cellsL v).all isCell = true then some (.pointer (some ⟨α.n, 0, none⟩), α.alloc ⟨cellsL v, e, true⟩) else none

theorem box_sound {P : Program} {G : World} {m : AM} {α α' : AH} {w : World} (h : Rel P G m α w) {e : TypeId} {v v' r : Value} (hv : VR m v v') (hl : abox e v α = some (r, α')) :
    ∃ m' r' w', (Instr.box e v').run P w = .ok r' w' ∧ m.le m' ∧ Rel P G m' α' w' ∧ VR m' r r' := by
  unfold abox at hl
  split at hl
  · rename_i hall
    injection hl with hl
    obtain ⟨rfl, rfl⟩ := Prod.mk.inj hl
    have hvl := hv.cells hall
    obtain ⟨p1, p2, p3, p4, p5⟩ := push_new h.n w.heap.size 0 v'.cells.size (P.cellsOf e)
    refine ⟨_, .pointer (some ⟨w.heap.size, 0, none⟩), w.alloc (.cells v'.cells e), rfl, AM.le_push m w.heap.size 0 v'.cells.size (P.cellsOf e), ?_, ?_⟩
    · refine h.alloc (cellsL v) v'.cells e (fun i x hx => ?_) (by have := hvl.1; simp [cellsL] at this ⊢; omega) (fun x hx => List.all_eq_true.1 hall x hx)
      obtain ⟨x', h1, h2⟩ := hvl.2 i x hx
      exact ⟨x', by simpa [cellsL] using h1, h2⟩
    · have := VR.ptr (m := m.push w.heap.size 0 v'.cells.size (P.cellsOf e)) (id := α.n) (off := 0) p5
      rw [p1, p2] at this
      exact this
  · cases hl

def aalloc (P : Program) (e : TypeId) (α : AH) : Option (Value × AH) :=
  match zeroA P e with
  | some z => if flatD z = true then abox e z α else none
  | none => none
theorem alloc_sound {P : Program} {G : World} {m : AM} {α α' : AH} {w : World} (h : Rel P G m α w) {e : TypeId} {r : Value} (hl : aalloc P e α = some (r, α')) :
    ∃ m' r' w', (Instr.alloc e true (.tuple #[])).run P w = .ok r' w' ∧ m.le m' ∧ Rel P G m' α' w' ∧ VR m' r r' := by
  unfold aalloc at hl
  split at hl
  · rename_i z hz
    split at hl
    · rename_i hf
      obtain ⟨m', r', w', h1, h2⟩ := box_sound h (VR.flatD (m := m) hf) hl
      refine ⟨m', r', w', ?_, h2⟩
      simp only [Instr.box, Sem.run_bind, Sem.run_pure] at h1
      simp only [Instr.alloc, Sem.run_bind, Sem.run_pure, run_zeroA hz, Result.andThen_ok]
      exact h1
    · cases hl
  · cases hl

/-! ### structs and literals -/
def afill (place : Nat → Option (Nat × Nat)) : List Value → List (Nat × Value) → Option (List Value)
  | cells, [] => some cells
  | cells, (i, v) :: rest =>
    match place i with
    | none => none
    | some (off, size) => if (cellsL v).all isCell = true ∧ (cellsL v).length = size ∧ off + size ≤ cells.length then afill place (setL cells off (cellsL v)) rest else none

theorem fold_set : ∀ (vs : List Value) (k off : Nat) (cs : Array Value), ((vs.zipIdx k).foldl (fun (cs : Array Value) (x : Value × Nat) => cs.setIfInBounds (off + x.2) x.1) cs).toList = setL cs.toList (off + k) vs
  | [], _, _, _ => rfl
  | v :: vs, k, off, cs => by
    rw [List.zipIdx_cons, List.foldl_cons, fold_set vs (k + 1) off]
    simp [setL, Nat.add_assoc]

theorem fold_set' (v : Value) (off : Nat) (cs : Array Value) : (v.cells.zipIdx.foldl (fun (cs : Array Value) (x : Value × Nat) => cs.setIfInBounds (off + x.2) x.1) cs).toList = setL cs.toList off (cellsL v) := by
  rw [← Array.foldl_toList]
  have := fold_set (cellsL v) 0 off cs
  rw [Nat.add_zero] at this
  rw [← this]
  simp [cellsL]

theorem VRL.setL {m : AM} : ∀ {vs vs' l l' : List Value} (o : Nat), VRL m l l' → VRL m vs vs' → VRL m (setL l o vs) (setL l' o vs')
  | [], [], l, l', o, h, _ => h
  | [], _ :: _, _, _, _, _, k => by simp [VRL] at k
  | _ :: _, [], _, _, _, _, k => by simp [VRL] at k
  | v :: vs, v' :: vs', l, l', o, h, k => by
    have hv : VR m v v' := by obtain ⟨x', h1, h2⟩ := k.2 0 v rfl; simp at h1; subst h1; exact h2
    have ht : VRL m vs vs' := k.drop 1
    exact VRL.setL (o + 1) (h.set hv o) ht

theorem fill_sound {m : AM} {place : Nat → Option (Nat × Nat)} : ∀ {parts parts' : List (Nat × Value)} {cells c : List Value} {cells' : Array Value}, VRL m cells cells'.toList →
    (parts.length = parts'.length ∧ ∀ (i k : Nat) (x : Value), parts[i]? = some (k, x) → ∃ x', parts'[i]? = some (k, x') ∧ VR m x x') → afill place cells parts = some c →
    ∃ c', Instr.fill place cells' parts' = some c' ∧ VRL m c c'.toList
  | [], [], cells, c, cells', h, _, hl => by simp [afill] at hl; subst hl; exact ⟨cells', rfl, h⟩
  | [], _ :: _, _, _, _, _, k, _ => by simp at k
  | _ :: _, [], _, _, _, _, k, _ => by simp at k
  | (i, v) :: rest, (i', v') :: rest', cells, c, cells', h, k, hl => by
    obtain ⟨x', h1, h2⟩ := k.2 0 i v rfl
    simp at h1
    obtain ⟨rfl, rfl⟩ := h1
    simp only [afill] at hl
    split at hl
    · cases hl
    · rename_i off size hp
      split at hl
      · rename_i hc
        obtain ⟨hall, hlen, hfit⟩ := hc
        have hvl := h2.cells hall
        have hsz : v'.cells.size = size := by have := hvl.1; simp [cellsL] at this hlen; omega
        have hcs : cells.length = cells'.size := by simpa using h.1
        have hrec : VRL m (Go.Lay.setL cells off (cellsL v)) (v'.cells.zipIdx.foldl (fun (cs : Array Value) (x : Value × Nat) => cs.setIfInBounds (off + x.2) x.1) cells').toList := by
          rw [fold_set']; exact VRL.setL off h hvl
        obtain ⟨c', g1, g2⟩ := fill_sound (parts' := rest') hrec ⟨by simpa using k.1, fun j q x hx => k.2 (j + 1) q x (by simpa using hx)⟩ hl
        refine ⟨c', ?_, g2⟩
        simp only [Instr.fill, hp]
        rw [if_neg (by simp; omega)]
        exact g1
      · cases hl

def placesA (P : Program) (t : TypeId) : Option (List (Nat × Nat)) :=
  match P.underlying t with
  | some (.struct fields) => fields.toList.mapM (fun f => (P.info? f.type).map fun i => (f.offset, i.size))
  | _ => none
def abuild (P : Program) (t : TypeId) (parts : List (Nat × Value)) : Option Value :=
  match zeroA P t with
  | some z => if flatD z = true ∧ (cellsL z).all isCell = true then
      match P.underlying t with
      | some (.struct _) => match placesA P t with
        | some pl => (afill (fun i => pl[i]?) (cellsL z) parts).map fun c => .agg c.toArray
        | none => none
      | some (.array _ e) => match sizeA P e with
        | some sz => (afill (fun i => some (i * sz, sz)) (cellsL z) parts).map fun c => .agg c.toArray
        | none => none
      | _ => none
    else none
  | none => none

theorem zeroA_info {P : Program} {t : TypeId} {z : Value} (h : zeroA P t = some z) : ∃ i, P.info? t = some i ∧ i.zero = some z := by
  unfold zeroA at h
  cases hi : P.info? t with
  | none => simp [hi] at h
  | some i => simp [hi] at h; exact ⟨i, rfl, h⟩
theorem sizeA_info {P : Program} {t : TypeId} {n : Nat} (h : sizeA P t = some n) : ∃ i, P.info? t = some i ∧ i.size = n := by
  unfold sizeA at h
  cases hi : P.info? t with
  | none => simp [hi] at h
  | some i => simp [hi] at h; exact ⟨i, rfl, h⟩

theorem build_sound {P : Program} {m : AM} {t : TypeId} {parts parts' : List (Nat × Value)} {r : Value}
    (hp : parts.length = parts'.length ∧ ∀ (i k : Nat) (x : Value), parts[i]? = some (k, x) → ∃ x', parts'[i]? = some (k, x') ∧ VR m x x') (hl : abuild P t parts = some r) :
    ∃ r', (∀ w, (Instr.build t parts'.toArray).run P w = .ok r' w) ∧ VR m r r' := by
  unfold abuild at hl
  split at hl
  · rename_i z hz
    obtain ⟨it, hi, hiz⟩ := zeroA_info hz
    split at hl
    · rename_i hf
      have hzz : VRL m (cellsL z) z.cells.toList := (VR.flatD (m := m) hf.1).cells hf.2
      split at hl
      · rename_i fs hu
        split at hl
        · rename_i pl hpl
          cases hc : afill (fun i => pl[i]?) (cellsL z) parts with
          | none => simp [hc] at hl
          | some c =>
            simp [hc] at hl
            subst hl
            obtain ⟨c', g1, g2⟩ := fill_sound hzz hp hc
            refine ⟨.agg c', fun w => run_build w t _ c' ?_, by have := g2.agg; simpa using this⟩
            unfold placesA at hpl
            simp only [hu] at hpl
            simp only [Program.built, hi, hu, hiz, hpl]
            simpa using g1
        · cases hl
      · rename_i n e hu
        split at hl
        · rename_i sz hs
          obtain ⟨ie, hie, hsz⟩ := sizeA_info hs
          cases hc : afill (fun i => some (i * sz, sz)) (cellsL z) parts with
          | none => simp [hc] at hl
          | some c =>
            simp [hc] at hl
            subst hl
            obtain ⟨c', g1, g2⟩ := fill_sound hzz hp hc
            refine ⟨.agg c', fun w => run_build w t _ c' ?_, by have := g2.agg; simpa using this⟩
            simp only [Program.built, hi, hu, hiz, hie, hsz]
            simpa using g1
        · cases hl
      · cases hl
    · cases hl
  · cases hl

/-- n elements that are all the same -/
def rep (n : Nat) (z : List Value) : List Value := (List.replicate n z).flatten
theorem length_rep (n : Nat) (z : List Value) : (rep n z).length = n * z.length := by simp [rep]
theorem get_rep (z : List Value) : ∀ (n i : Nat), i < n * z.length → (rep n z)[i]? = z[i % z.length]?
  | 0, i, h => by simp at h
  | n + 1, i, h => by
    rw [rep, List.replicate_succ, List.flatten_cons, List.getElem?_append]
    by_cases hi : i < z.length
    · rw [if_pos hi, Nat.mod_eq_of_lt hi]
    · rw [if_neg hi]
      have := get_rep z n (i - z.length) (by rw [Nat.succ_mul] at h; omega)
      rw [rep] at this
      rw [this, Nat.mod_eq_sub_mod (a := i) (by omega)]

theorem made_rel {m : AM} {z : Value} (hz : flatD z = true) (hc : (cellsL z).all isCell = true) (n sz : Nat) (hs : (cellsL z).length = sz) :
    VRL m (rep n (cellsL z)) ((Array.range (n * sz)).map (z.cells[· % z.cells.size]!)).toList := by
  refine ⟨by rw [length_rep]; simp [hs], fun i x hx => ?_⟩
  have hi : i < n * sz := by have := (List.getElem?_eq_some_iff.1 hx).1; rw [length_rep, hs] at this; exact this
  rw [get_rep _ _ _ (by rw [hs]; exact hi)] at hx
  have hzs : z.cells.size = sz := by simpa [cellsL] using hs
  refine ⟨x, ?_, ?_⟩
  · have hpos : 0 < z.cells.size := by
      rcases Nat.eq_zero_or_pos z.cells.size with h0 | h0
      · rw [← hzs, h0] at hi; simp at hi
      · exact h0
    simp [hi]
    rw [hs, cellsL, Array.getElem?_toList] at hx
    rw [hzs, getElem!_def, hx]
  · have hm := List.mem_of_getElem? hx
    have h1 := (VR.flatD (m := m) hz).cells hc
    obtain ⟨j, hj⟩ := List.mem_iff_getElem?.1 hm
    obtain ⟨x', a, b⟩ := h1.2 j x hj
    rw [hj] at a
    injection a with a
    subst a
    exact b

theorem rep_cell {z : Value} (hc : (cellsL z).all isCell = true) (n : Nat) : ∀ x ∈ rep n (cellsL z), isCell x = true := fun x hx => by
  simp only [rep, List.mem_flatten, List.mem_replicate] at hx
  obtain ⟨l, ⟨_, rfl⟩, hx⟩ := hx
  exact List.all_eq_true.1 hc x hx

def abuildSlice (P : Program) (t : TypeId) (len : Nat) (parts : List (Nat × Value)) (α : AH) : Option (Value × AH) :=
  match P.underlying t with
  | some (.slice e) =>
    match zeroA P e, sizeA P e with
    | some z, some sz =>
      if flatD z = true ∧ (cellsL z).all isCell = true ∧ (cellsL z).length = sz ∧ len * sz ≤ 2 ^ 24 ∧ 0 < sz then
        match afill (fun i => some (i * sz, sz)) (rep len (cellsL z)) parts with
        | some c => some (.slice (some ⟨α.n, 0, none⟩) len 0, α.alloc ⟨c, e, true⟩)
        | none => none
      else none
    | _, _ => none
  | _ => none

theorem afill_cell {place : Nat → Option (Nat × Nat)} : ∀ {parts : List (Nat × Value)} {cells c : List Value}, (∀ x ∈ cells, isCell x = true) → afill place cells parts = some c → (∀ x ∈ c, isCell x = true) ∧ c.length = cells.length
  | [], cells, c, h, hl => by simp [afill] at hl; subst hl; exact ⟨h, rfl⟩
  | (i, v) :: rest, cells, c, h, hl => by
    simp only [afill] at hl
    split at hl
    · cases hl
    · split at hl
      · rename_i hc
        obtain ⟨a, b⟩ := afill_cell (fun x hx => by
          obtain ⟨j, hj⟩ := List.mem_iff_getElem?.1 hx
          rw [get_setL _ _ _ _ (by omega)] at hj
          split at hj
          · exact List.all_eq_true.1 hc.1 x (List.mem_of_getElem? hj)
          · exact h x (List.mem_of_getElem? hj)) hl
        exact ⟨a, by rw [b, length_setL]⟩
      · cases hl

theorem buildSlice_sound {P : Program} {G : World} {m : AM} {α α' : AH} {w : World} (h : Rel P G m α w) {t : TypeId} {len : Nat} {parts parts' : List (Nat × Value)} {r : Value}
    (hp : parts.length = parts'.length ∧ ∀ (i k : Nat) (x : Value), parts[i]? = some (k, x) → ∃ x', parts'[i]? = some (k, x') ∧ VR m x x') (hl : abuildSlice P t len parts α = some (r, α')) :
    ∃ m' r' w', (Instr.buildSlice t len parts'.toArray).run P w = .ok r' w' ∧ m.le m' ∧ Rel P G m' α' w' ∧ VR m' r r' := by
  unfold abuildSlice at hl
  split at hl
  · rename_i e hu
    split at hl
    · rename_i z sz hz hs
      split at hl
      · rename_i hf
        obtain ⟨f1, f2, f3, f4, f5⟩ := hf
        split at hl
        · rename_i c hc
          injection hl with hl
          obtain ⟨rfl, rfl⟩ := Prod.mk.inj hl
          have hsmall : ¬ len * sz > 16777216 := by omega
          obtain ⟨k1, k2⟩ := afill_cell (rep_cell f2 len) hc
          have hclen : c.length = len * sz := by rw [k2, length_rep, f3]
          have hrel : ∃ c' : Array Value, VRL m c c'.toList ∧ (Instr.buildSlice t len parts'.toArray).run P w = .ok (.slice (some ⟨w.heap.size, 0, none⟩) len len) (w.alloc (.cells c' e)) := by
            obtain ⟨c', g1, g2⟩ := fill_sound (made_rel f1 f2 len sz f3) hp hc
            refine ⟨c', g2, ?_⟩
            by_cases h0 : len * sz = 0
            · have hl0 : len = 0 := by rcases Nat.mul_eq_zero.1 h0 with h | h <;> omega
              subst hl0
              have e0 : Array.range 0 = #[] := rfl
              simp only [Nat.zero_mul, e0, Array.map_empty] at g1
              simp [Instr.buildSlice, run_underlying hu, run_sizeA hs, e0, g1, newRow]
            · obtain ⟨ie, hie, hsz⟩ := sizeA_info hs
              obtain ⟨ie2, hie2, hzz⟩ := zeroA_info hz
              rw [hie] at hie2
              injection hie2 with hie2
              subst hie2
              subst hsz
              exact run_buildSlice w t e len _ c' ie z hu hie hzz hsmall h0 (by simpa using g1)
          obtain ⟨c', g2, hrun⟩ := hrel
          have hsz' : c'.size = len * sz := by have := g2.1; simp at this; omega
          obtain ⟨p1, p2, p3, p4, p5⟩ := push_new h.n w.heap.size 0 c'.size (P.cellsOf e)
          refine ⟨_, _, _, hrun, AM.le_push m w.heap.size 0 c'.size (P.cellsOf e), h.alloc c c' e (fun i x hx => ?_) (by omega) k1, ?_⟩
          · obtain ⟨x', h1, h2⟩ := g2.2 i x hx
            exact ⟨x', by simpa using h1, h2⟩
          · have := VR.sl (m := m.push w.heap.size 0 c'.size (P.cellsOf e)) (id := α.n) (off := 0) (len := len) (c := 0) (c' := len) (o' := 0) p5 (fun _ => by rw [p2]) (Nat.le_refl _)
              (by rw [p3, p4, cellsOf_sizeA hs, hsz']; omega)
            rw [p1] at this
            exact this
        · cases hl
      · cases hl
    · cases hl
  · cases hl

/-! ### make -/
def amake (P : Program) (t : TypeId) (l c : Value) (α : AH) : Option (Value × AH) :=
  match P.underlying t, l, c with
  | some (.slice e), .int _ n, .int _ n' =>
    match zeroA P e, sizeA P e with
    | some z, some sz =>
      if flatD z = true ∧ (cellsL z).all isCell = true ∧ (cellsL z).length = sz ∧ n' = n ∧ 0 ≤ n ∧ n ≤ 140737488355328 ∧ n * bytesA P e ≤ 140737488355328 then
        some (.slice (some ⟨α.n, 0, none⟩) n.toNat 0, α.alloc ⟨rep n.toNat (cellsL z), e, true⟩)
      else none
    | _, _ => none
  | _, _, _ => none

theorem run_typeInfoA {P : Program} {t : TypeId} {n : Nat} (h : sizeA P t = some n) (w : World) : ∃ i, P.info? t = some i ∧ i.size = n ∧ i.bytes = bytesA P t ∧ (typeInfo t).run P w = .ok i w := by
  obtain ⟨i, hi, hn⟩ := sizeA_info h
  exact ⟨i, hi, hn, by simp [bytesA, Program.bytesOf, hi], by simp [typeInfo, hi]⟩

theorem make_sound {P : Program} {G : World} {m : AM} {α α' : AH} {w : World} (h : Rel P G m α w) {t : TypeId} {l l' c c' : Value} {r : Value} (h1 : VR m l l') (h2 : VR m c c') (hl : amake P t l c α = some (r, α')) :
    ∃ m' r' w', (Instr.makeSlice t l' c').run P w = .ok r' w' ∧ m.le m' ∧ Rel P G m' α' w' ∧ VR m' r r' := by
  unfold amake at hl
  split at hl
  · rename_i e k n k' n' hu
    obtain rfl := h1.eq_flat rfl
    obtain rfl := h2.eq_flat rfl
    split at hl
    · rename_i z sz hz hs
      split at hl
      · rename_i hf
        obtain ⟨f1, f2, f3, rfl, f5, f6, f7⟩ := hf
        injection hl with hl
        obtain ⟨rfl, rfl⟩ := Prod.mk.inj hl
        obtain ⟨N, rfl⟩ := Int.eq_ofNat_of_zero_le f5
        obtain ⟨i, hi, hin, hib, hrun⟩ := run_typeInfoA hs w
        have hcells := made_rel (m := m) f1 f2 N sz f3
        have key : (Instr.makeSlice t (.int k (N : Int)) (.int k' (N : Int))).run P w = .ok (.slice (some ⟨w.heap.size, 0, none⟩) N N) (w.alloc (.cells ((Array.range (N * sz)).map (z.cells[· % z.cells.size]!)) e)) := by
          obtain ⟨i2, hi2, hiz⟩ := zeroA_info hz
          rw [hi] at hi2
          injection hi2 with hi2
          subst hi2
          subst hin
          exact run_make w t e i z hu hi hiz k k' N N (by omega) (Int.le_refl _) (by rw [hib, Int.mul_comm]; omega) (by omega)
        obtain ⟨p1, p2, p3, p4, p5⟩ := push_new h.n w.heap.size 0 (N * sz) (P.cellsOf e)
        refine ⟨m.push w.heap.size 0 (N * sz) (P.cellsOf e), _, _, key, AM.le_push m w.heap.size 0 (N * sz) (P.cellsOf e), ?_, ?_⟩
        · have := h.alloc (rep N (cellsL z)) ((Array.range (N * sz)).map (z.cells[· % z.cells.size]!)) e (fun i x hx => ?_) (by rw [length_rep, f3]; simp) (rep_cell f2 N)
          · simpa using this
          · obtain ⟨x', h1, h2⟩ := hcells.2 i x hx
            exact ⟨x', by rw [← Array.getElem?_toList]; exact h1, h2⟩
        · have := VR.sl (m := m.push w.heap.size 0 (N * sz) (P.cellsOf e)) (id := α.n) (off := 0) (len := N) (c := 0) (c' := N) (o' := 0) p5 (fun _ => by rw [p2]) (Nat.le_refl _)
            (by rw [p3, p4, cellsOf_sizeA hs]; omega)
          rw [p1] at this
          simpa using this
      · cases hl
    · cases hl
  · cases hl

end Go.Lay

set_option linter.unusedVariables false
set_option linter.unusedSimpArgs false
namespace Go.Lay
open Go Go.RowKit

/-- The cells that a slice, or a string, has. -/
def asrc (sz : Nat) (x : Value) (α : AH) : Option (Nat × List Value) :=
  match x with
  | .slice none 0 0 => some (0, [])
  | .string s => if sz = 1 then some (s.size, byteCells s) else none
  | .slice (some ⟨id, off, none⟩) n _ => match α.get id with
    | some b => if off + n * sz ≤ b.cells.length then some (n, (b.cells.drop off).take (n * sz)) else none
    | none => none
  | _ => none

def seqA : Option TypeDesc → Bool
  | some (.slice _) | some .string => true
  | _ => false

theorem one_all {m : AM} {l l' : List Value} (h : VRL m l l') (hc : ∀ x ∈ l, isCell x = true) : ∀ x ∈ l', x.oneCell' = true := fun x hx => by
  obtain ⟨i, hi⟩ := List.mem_iff_getElem?.1 hx
  have hlt : i < l.length := by have := (List.getElem?_eq_some_iff.1 hi).1; have := h.1; omega
  obtain ⟨x', h1, h2⟩ := h.2 i _ (List.getElem?_eq_getElem hlt)
  rw [hi] at h1
  injection h1 with h1
  subst h1
  exact isCell_one (h2.one (hc _ (List.getElem_mem hlt)))

theorem byteCells_flat (s : ByteArray) : ∀ x ∈ byteCells s, flat x = true ∧ isCell x = true := fun x hx => by
  obtain ⟨b, _, rfl⟩ := List.mem_map.1 hx
  exact ⟨rfl, rfl⟩

theorem asrc_sound {P : Program} {G : World} {m : AM} {α : AH} {w : World} (h : Rel P G m α w) {sz n : Nat} {x x' : Value} {vs : List Value} {u : TypeId} (hx : VR m x x') (hl : asrc sz x α = some (n, vs))
    (hk : seqA (P.underlying u) = true) : ∃ news, Src P sz u x' n news w ∧ VRL m vs news ∧ ∀ v ∈ vs, isCell v = true := by
  have hkind : (∃ e', P.underlying u = some (.slice e')) ∨ P.underlying u = some .string := by
    unfold seqA at hk
    split at hk
    · rename_i e he; exact .inl ⟨e, he⟩
    · rename_i he; exact .inr he
    · cases hk
  unfold asrc at hl
  split at hl
  · obtain rfl := hx.eq_flat rfl
    injection hl with hl
    obtain ⟨rfl, rfl⟩ := Prod.mk.inj hl
    refine ⟨[], ⟨hkind, fun _ => rfl, ?_, ?_, by simp, fun _ h => by cases h⟩, VRL.nil m, fun _ h => by cases h⟩
    · exact run_firstCells_none w sz 0 0 0
    · exact run_firstCells_none w.drew sz 0 0 0
  · rename_i s
    obtain rfl := hx.eq_flat rfl
    split at hl
    · rename_i h1
      subst h1
      injection hl with hl
      obtain ⟨rfl, rfl⟩ := Prod.mk.inj hl
      refine ⟨byteCells s, ⟨hkind, fun _ => rfl, firstCells_string s w, firstCells_string s w.drew, by rw [byteCells_length, Nat.mul_one], fun v hv => isCell_one (byteCells_flat s v hv).2⟩,
        VRL.flat fun v hv => (byteCells_flat s v hv).1, fun v hv => (byteCells_flat s v hv).2⟩
    · cases hl
  · rename_i id off len c
    obtain ⟨hid, c', o', rfl, ho, hle, htop⟩ := hx.sl_inv
    split at hl
    · rename_i b hb
      split at hl
      · rename_i hfit
        injection hl with hl
        obtain ⟨rfl, rfl⟩ := Prod.mk.inj hl
        have hcell : ∀ v ∈ (b.cells.drop off).take (len * sz), isCell v = true := fun v hv => h.cell id b hb v (List.mem_of_mem_drop (List.mem_of_mem_take hv))
        have hex : ∀ j : Nat, ∃ x', j < len * sz → w.cell? ⟨m.b id, o' + j, none⟩ = some x' ∧ VR m ((b.cells.drop off)[j]?.get!) x' := fun j => by
          by_cases hj : j < len * sz
          · have hlen : 0 < len := by
              rcases Nat.eq_zero_or_pos len with h0 | h0
              · subst h0; simp at hj
              · exact h0
            obtain ⟨x', h1, h2⟩ := h.read id b hb (off + j) b.cells[off + j] (List.getElem?_eq_getElem (by omega))
            refine ⟨x', fun _ => ⟨by rw [ho hlen, Nat.add_assoc]; exact h1, ?_⟩⟩
            rw [List.getElem?_drop, List.getElem?_eq_getElem (by omega)]
            exact h2
          · exact ⟨undef, fun hc => absurd hc hj⟩
        obtain ⟨f, hf⟩ := Classical.axiomOfChoice hex
        have hv : VRL m ((b.cells.drop off).take (len * sz)) ((List.range (len * sz)).map f) := by
          refine ⟨by simp; omega, fun i x hx => ?_⟩
          have hi : i < len * sz := by have := (List.getElem?_eq_some_iff.1 hx).1; simp at this; omega
          refine ⟨f i, by simp [hi], ?_⟩
          have := (hf i hi).2
          rw [List.getElem?_take, if_pos hi] at hx
          rw [hx] at this
          exact this
        have hr : ∀ j v, ((List.range (len * sz)).map f)[j]? = some v → w.cell? ((⟨m.b id, o', none⟩ : Addr).add j) = some v := fun j v hj => by
          have hi : j < len * sz := by have := (List.getElem?_eq_some_iff.1 hj).1; simpa using this
          simp [hi] at hj
          subst hj
          rw [addr_add]
          exact (hf j hi).1
        exact ⟨_, ⟨hkind, fun _ => rfl, run_firstCells_some w sz len _ len c' _ (by simp) hr, run_firstCells_some w.drew sz len _ len c' _ (by simp) (by simpa using hr), by simp, one_all hv hcell⟩, hv, hcell⟩
      · cases hl
    · cases hl
  · cases hl

def aappend (P : Program) (ts : Array TypeId) (s x : Value) (α : AH) : Option (Value × AH) :=
  match ts with
  | ⟨[t, u]⟩ =>
    match P.underlying t with
    | some (.slice e) =>
      match zeroA P e, sizeA P e with
      | some z, some sz =>
        if seqA (P.underlying u) = true ∧ (cellsL z).length = sz ∧ 0 < bytesA P e then
          match asrc sz x α with
          | some (n, vs) =>
            match s with
            | .slice none 0 0 =>
              if n = 0 then some (.slice none 0 0, α)
              else if n * bytesA P e ≤ 140737488355328 then some (.slice (some ⟨α.n, 0, none⟩) n 0, α.alloc ⟨vs, e, true⟩) else none
            | .slice (some ⟨id, off, none⟩) len _ =>
              match α.get id with
              | some b =>
                if b.own = true ∧ b.elem = e ∧ off + len * sz ≤ b.cells.length ∧ (len + n) * bytesA P e ≤ 140737488355328 then
                  some (.slice (some ⟨α.n, 0, none⟩) (len + n) 0, (α.set id none).alloc ⟨(b.cells.drop off).take (len * sz) ++ vs, e, true⟩)
                else none
              | none => none
            | _ => none
          | none => none
        else none
      | _, _ => none
    | _ => none
  | _ => none

theorem grownCap_ge (w : World) (need old : Nat) (e : TypeId) : need ≤ grownCap w need old e := by simp [grownCap, Question.cut]

theorem append_sound {P : Program} {G : World} {m : AM} {α α' : AH} {w : World} (h : Rel P G m α w) {ts : Array TypeId} {ty : TypeId} {s s' x x' r : Value} (hsv : VR m s s') (hx : VR m x x') (hl : aappend P ts s x α = some (r, α')) :
    ∃ m' r' w', (Builtin.append_ ts ty #[s', x']).run P w = .ok r' w' ∧ m.le m' ∧ Rel P G m' α' w' ∧ VR m' r r' := by
  unfold aappend at hl
  split at hl
  · rename_i t u
    split at hl
    · rename_i e ht
      split at hl
      · rename_i z sz hz hs
        split at hl
        · rename_i hc
          obtain ⟨hk, hzs, hb0⟩ := hc
          obtain ⟨i, hi, hin, hib, -⟩ := run_typeInfoA hs w
          obtain ⟨i2, hi2, hiz⟩ := zeroA_info hz
          rw [hi] at hi2
          injection hi2 with hi2
          subst hi2
          have hzs' : z.cells.size = sz := by simpa [cellsL] using hzs
          split at hl
          · rename_i n vs hsrc
            obtain ⟨news, hsr, hv, hcell⟩ := asrc_sound h hx hsrc hk
            have hnl := hsr.newsLen
            split at hl
            · obtain rfl := hsv.eq_flat rfl
              split at hl
              · rename_i hn0
                subst hn0
                injection hl with hl
                obtain ⟨rfl, rfl⟩ := Prod.mk.inj hl
                refine ⟨m, .slice none 0 0, w, ?_, .refl m, h, .fl rfl⟩
                rcases hsr.kind with ⟨e', hk⟩ | hk <;> simp [Builtin.append_, run_underlying ht, run_underlying hk, run_sizeA hs, hsr.len, hsr.cells]
              · split at hl
                · rename_i hn0 hbytes
                  injection hl with hl
                  obtain ⟨rfl, rfl⟩ := Prod.mk.inj hl
                  subst hin
                  have hn63 : n ≤ 140737488355328 := Nat.le_trans (Nat.le_mul_of_pos_right _ hb0) hbytes
                  have hrun := run_append_grow_src w t u ty e i z ht hi hiz none 0 0 [] (run_firstCells_none w.drew i.size 0 0 0) x' n news hsr (by omega) (by omega)
                    (growslice_fits (by omega) (by rw [Nat.zero_add, hib]; exact hbytes))
                  rw [Nat.zero_add, List.nil_append] at hrun
                  generalize hnc : grownCap w n 0 e = nc at hrun
                  have hge : n ≤ nc := by rw [← hnc]; exact grownCap_ge w n 0 e
                  have hsize : (news.toArray ++ Builtin.zeroCells z.cells (nc - n)).size = nc * i.size := by
                    simp [Builtin.zeroCells, hnl, hzs']
                    rw [← Nat.add_mul]; congr 1; omega
                  obtain ⟨p1, p2, p3, p4, p5⟩ := push_new h.n w.heap.size 0 (nc * i.size) (P.cellsOf e)
                  refine ⟨m.push w.heap.size 0 (nc * i.size) (P.cellsOf e), _, _, hrun, AM.le_push m w.heap.size 0 (nc * i.size) (P.cellsOf e), ?_, ?_⟩
                  · have := (h.drew (w.drawn + 1)).alloc vs (news.toArray ++ Builtin.zeroCells z.cells (nc - n)) e (fun j y hy => ?_) (by rw [hv.1]; simp) hcell
                    · rw [hsize] at this; exact this
                    · obtain ⟨y', h1, h2⟩ := hv.2 j y hy
                      refine ⟨y', ?_, h2⟩
                      have hj : j < news.length := (List.getElem?_eq_some_iff.1 h1).1
                      rw [Array.getElem?_append_left (by simpa using hj)]
                      simpa using h1
                  · have := VR.sl (m := m.push w.heap.size 0 (nc * i.size) (P.cellsOf e)) (id := α.n) (off := 0) (len := n) (c := 0) (c' := nc) (o' := 0) p5 (fun _ => by rw [p2]) hge
                      (by rw [p3, p4, cellsOf_sizeA hs]; omega)
                    rw [p1] at this
                    exact this
                · cases hl
            · rename_i id off len c
              obtain ⟨hid, c', o', rfl, ho, hle, htop⟩ := hsv.sl_inv
              split at hl
              · rename_i b hb
                split at hl
                · rename_i hcond
                  obtain ⟨hown, rfl, hfit, hbytes⟩ := hcond
                  injection hl with hl
                  obtain ⟨rfl, rfl⟩ := Prod.mk.inj hl
                  subst hin
                  obtain ⟨o1, o2, o3, o4, o5⟩ := h.own id b hb hown
                  rw [cellsOf_sizeA hs] at o3
                  by_cases hroom : len + n ≤ c'
                  · have hmul : (len + n) * i.size ≤ c' * i.size := Nat.mul_le_mul_right _ hroom
                    rw [Nat.add_mul] at hmul
                    rw [o3] at htop
                    have hvl := hv.1
                    have hrun := run_append_room_src w t u ty b.elem i ht hi (m.b id) o' len c' x' n news hsr hroom (fun j hj => (o5 _ (by omega)).1) (fun j hj => (o5 _ (by omega)).2)
                    have hg := h.grow hb hown off (len * i.size) o' vs news hv hcell (fun hp => ho (by
                      rcases Nat.eq_zero_or_pos len with h0 | h0
                      · subst h0; simp at hp
                      · exact h0)) (.inl hfit) (by omega)
                    refine ⟨_, _, _, hrun, AM.le_push m (m.b id) o' (m.top id) (m.sz id), hg, ?_⟩
                    obtain ⟨p1, p2, p3, p4, p5⟩ := push_new h.n (m.b id) o' (m.top id) (m.sz id)
                    have := VR.sl (m := m.push (m.b id) o' (m.top id) (m.sz id)) (id := α.n) (off := 0) (len := len + n) (c := 0) (c' := c') (o' := o') p5 (fun _ => by rw [p2]; rfl) hroom
                      (by rw [p3, p4, o3]; exact htop)
                    rw [p1] at this
                    exact this
                  · obtain ⟨olds, hso, hvo, hco⟩ := asrc_sound (x := .slice (some ⟨id, off, none⟩) len c) (sz := i.size) (n := len) (vs := (b.cells.drop off).take (len * i.size)) (u := t) h (VR.sl hid ho hle htop) (by simp only [asrc, hb]; rw [if_pos hfit]) (by rw [ht]; rfl)
                    have hn63 : len + n ≤ 140737488355328 := Nat.le_trans (Nat.le_mul_of_pos_right _ hb0) hbytes
                    have hrun := run_append_grow_src w t u ty b.elem i z ht hi hiz (some ⟨m.b id, o', none⟩) len c' olds hso.cellsD x' n news hsr (by omega) (by omega)
                      (growslice_fits (by omega) (by rw [hib]; exact hbytes))
                    generalize hnc : grownCap w (len + n) c' b.elem = nc at hrun
                    have hge : len + n ≤ nc := by rw [← hnc]; exact grownCap_ge w (len + n) c' b.elem
                    have hol := hso.newsLen
                    have hsize : ((olds ++ news).toArray ++ Builtin.zeroCells z.cells (nc - (len + n))).size = nc * i.size := by
                      simp [Builtin.zeroCells, hnl, hol, hzs']
                      rw [← Nat.add_mul, ← Nat.add_mul]; congr 1; omega
                    have hvv := hvo.append hv
                    obtain ⟨p1, p2, p3, p4, p5⟩ := push_new h.n w.heap.size 0 (nc * i.size) (P.cellsOf b.elem)
                    refine ⟨m.push w.heap.size 0 (nc * i.size) (P.cellsOf b.elem), _, _, hrun, AM.le_push m w.heap.size 0 (nc * i.size) (P.cellsOf b.elem), ?_, ?_⟩
                    · have := ((h.kill id).drew (w.drawn + 1)).alloc ((b.cells.drop off).take (len * i.size) ++ vs) ((olds ++ news).toArray ++ Builtin.zeroCells z.cells (nc - (len + n))) b.elem (fun j y hy => ?_)
                        (by rw [hvv.1]; simp) (fun y hy => (List.mem_append.1 hy).elim (hco y) (hcell y))
                      · rw [hsize] at this; exact this
                      · obtain ⟨y', h1, h2⟩ := hvv.2 j y hy
                        refine ⟨y', ?_, h2⟩
                        have hj : j < (olds ++ news).length := (List.getElem?_eq_some_iff.1 h1).1
                        rw [Array.getElem?_append_left (by simpa using hj)]
                        simpa using h1
                    · have := VR.sl (m := m.push w.heap.size 0 (nc * i.size) (P.cellsOf b.elem)) (id := α.n) (off := 0) (len := len + n) (c := 0) (c' := nc) (o' := 0) p5 (fun _ => by rw [p2]) hge
                        (by rw [p3, p4, cellsOf_sizeA hs]; omega)
                      rw [p1] at this
                      exact this
                · cases hl
              · cases hl
            · cases hl
          · cases hl
        · cases hl
      · cases hl
    · cases hl
  · cases hl

/-- copy: of a slice, onto a row of one's own -/
def acopy (P : Program) (ts : Array TypeId) (d x : Value) (α : AH) : Option (Value × AH) :=
  match ts[0]? with
  | some t =>
    match P.underlying t with
    | some (.slice e) =>
      match sizeA P e with
      | some sz =>
        match d, x with
        | .slice none 0 0, .slice (some _) _ _ | .slice none 0 0, .slice none 0 0 | .slice (some _) _ _, .slice none 0 0 => some (.int .i64 0, α)
        | .slice (some ⟨id, off, none⟩) len _, .slice (some ⟨id', off', none⟩) n _ =>
          match α.get id, asrc sz (.slice (some ⟨id', off', none⟩) (min n len) 0) α with
          | some b, some (_, vs) => if b.own = true ∧ off + len * sz ≤ b.cells.length then
              some (.int .i64 ((min n len : Nat) : Int), α.set id (some { b with cells := setL b.cells off vs })) else none
          | _, _ => none
        | _, _ => none
      | none => none
    | _ => none
  | none => none

theorem copy_sound {P : Program} {G : World} {m : AM} {α α' : AH} {w : World} (h : Rel P G m α w) {ts : Array TypeId} {ty : TypeId} {d d' x x' r : Value} (hd : VR m d d') (hx : VR m x x') (hl : acopy P ts d x α = some (r, α')) :
    ∃ r' w', (Builtin.copy_ ts ty #[d', x']).run P w = .ok r' w' ∧ Rel P G m α' w' ∧ VR m r r' := by
  unfold acopy at hl
  split at hl
  · rename_i t ht0
    split at hl
    · rename_i e ht
      split at hl
      · rename_i sz hs
        split at hl
        · rename_i a n c
          obtain rfl := hd.eq_flat rfl
          injection hl with hl
          obtain ⟨rfl, rfl⟩ := Prod.mk.inj hl
          have hx' : ∃ a' c', x' = .slice (some a') n c' := by
            cases hx with
            | fl hf => simp [Go.Lay.flat] at hf
            | sl h1 h2 h3 h4 => exact ⟨_, _, rfl⟩
          obtain ⟨a', c', rfl⟩ := hx'
          refine ⟨.int .i64 0, w, ?_, h, .fl rfl⟩
          simp [Builtin.copy_, ht0, run_underlying ht, Builtin.lenOf, run_sizeA hs, Builtin.firstCells, loadCells, loadCellsFrom, goInt]
        · obtain rfl := hd.eq_flat rfl
          obtain rfl := hx.eq_flat rfl
          injection hl with hl
          obtain ⟨rfl, rfl⟩ := Prod.mk.inj hl
          refine ⟨.int .i64 0, w, ?_, h, .fl rfl⟩
          simp [Builtin.copy_, ht0, run_underlying ht, Builtin.lenOf, run_sizeA hs, Builtin.firstCells, goInt]
        · rename_i a n c
          obtain rfl := hx.eq_flat rfl
          injection hl with hl
          obtain ⟨rfl, rfl⟩ := Prod.mk.inj hl
          have hx' : ∃ a' c', d' = .slice (some a') n c' := by
            cases hd with
            | fl hf => simp [Go.Lay.flat] at hf
            | sl h1 h2 h3 h4 => exact ⟨_, _, rfl⟩
          obtain ⟨a', c', rfl⟩ := hx'
          refine ⟨.int .i64 0, w, ?_, h, .fl rfl⟩
          simp [Builtin.copy_, ht0, run_underlying ht, Builtin.lenOf, run_sizeA hs, Builtin.firstCells, goInt, storeCells]
        · rename_i id off len c id2 off2 n c2
          obtain ⟨hid, cd, od, rfl, ho, hle, htop⟩ := hd.sl_inv
          obtain ⟨hid2, cx, ox, rfl, ho2, hle2, htop2⟩ := hx.sl_inv
          split at hl
          · rename_i b q vs hb hsrc
            split at hl
            · rename_i hc
              injection hl with hl
              obtain ⟨rfl, rfl⟩ := Prod.mk.inj hl
              have hmin : min n len ≤ n ∧ min n len ≤ len := ⟨Nat.min_le_left _ _, Nat.min_le_right _ _⟩
              obtain ⟨news, hsr, hv, hcell⟩ := asrc_sound (u := t) h (VR.sl (c := 0) (c' := cx) (len := min n len) hid2 (fun hp => ho2 (by omega)) (by omega) htop2) hsrc (by rw [ht]; rfl)
              have hq : q = min n len := by
                simp only [asrc] at hsrc
                split at hsrc
                · split at hsrc
                  · injection hsrc with hsrc; exact (Prod.mk.inj hsrc).1.symm
                  · cases hsrc
                · cases hsrc
              subst hq
              obtain ⟨o1, o2, o3, o4, o5⟩ := h.own id b hb hc.1
              have hnl := hsr.newsLen
              have hvl := hv.1
              have hmul : min n len * sz ≤ len * sz := Nat.mul_le_mul_right _ hmin.2
              have hcells : (Builtin.firstCells sz (min n len) (.slice (some ⟨m.b id2, ox, none⟩) n cx)).run P w = .ok news.toArray w := hsr.cells
              by_cases hlen : 0 < len
              · have hod := ho hlen
                subst hod
                have hst := run_storeCells_cells (P := P) (m.b id) (m.base id + off) news 0 w (fun j hj => (o5 _ (by omega)).1) (fun j hj => (o5 _ (by omega)).2) (one_all hv hcell)
                refine ⟨.int .i64 ((min n len : Nat) : Int), w.setCells (m.b id) (m.base id + off) news, ?_, h.store hb hc.1 off vs news hv hcell (by omega), .fl rfl⟩
                simp only [Nat.add_zero] at hst
                simp [Builtin.copy_, ht0, run_underlying ht, Builtin.lenOf, run_sizeA hs, hcells, goInt, hst]
              · have h0 : len = 0 := by omega
                subst h0
                have hn0 : news = [] := List.eq_nil_of_length_eq_zero (by simpa using hnl)
                subst hn0
                have hv0 : vs = [] := List.eq_nil_of_length_eq_zero (by simpa using hvl)
                subst hv0
                refine ⟨.int .i64 ((min n 0 : Nat) : Int), w, ?_, ?_, .fl rfl⟩
                · simp only [Nat.min_zero] at hcells
                  simp [Builtin.copy_, ht0, run_underlying ht, Builtin.lenOf, run_sizeA hs, hcells, goInt, storeCells]
                · exact h.store hb hc.1 off [] [] (VRL.nil m) (by simp) (by simp; omega)
            · cases hl
          · cases hl
        · cases hl
      · cases hl
    · cases hl
  · cases hl

end Go.Lay

set_option linter.unusedVariables false
set_option linter.unusedSimpArgs false
namespace Go.Lay
open Go Go.RowKit

def aint (op : BinOp) (k : IntKind) (a b : Int) : Option Value :=
  match op with
  | .add => some (.int k (k.wrap (a + b)))
  | .sub => some (.int k (k.wrap (a - b)))
  | .mul => some (.int k (k.wrap (a * b)))
  | .quo => if b = 0 then none else some (.int k (k.wrap (a.tdiv b)))
  | .rem => if b = 0 then none else some (.int k (a.tmod b))
  | .and => some (.int k (k.wrap (BitVec.ofInt k.bits a &&& BitVec.ofInt k.bits b).toNat))
  | .or => some (.int k (k.wrap (BitVec.ofInt k.bits a ||| BitVec.ofInt k.bits b).toNat))
  | .xor => some (.int k (k.wrap (BitVec.ofInt k.bits a ^^^ BitVec.ofInt k.bits b).toNat))
  | .andNot => some (.int k (k.wrap (BitVec.ofInt k.bits a &&& ~~~ BitVec.ofInt k.bits b).toNat))
  | .eql => some (.bool (a == b))
  | .neq => some (.bool (a != b))
  | .lss => some (.bool (decide (a < b)))
  | .leq => some (.bool (decide (a ≤ b)))
  | .gtr => some (.bool (decide (a > b)))
  | .geq => some (.bool (decide (a ≥ b)))
  | _ => none
def ashift (op : BinOp) (k : IntKind) (a b : Int) : Option Value :=
  if b < 0 then none else
  match op with
  | .shl => some (.int k (k.wrap (a * 2 ^ (min b.toNat k.bits))))
  | .shr => some (.int k (a.fdiv (2 ^ (min b.toNat k.bits))))
  | _ => none
/-- is a value nil? -/
def anil : TypeDesc → Value → Option Bool
  | .slice _, .slice none _ _ => some true
  | .slice _, .slice (some _) _ _ => some false
  | .pointer _, .pointer none => some true
  | .pointer _, .pointer (some _) => some false
  | .interface _, .nilIface => some true
  | .interface _, .iface _ _ => some false
  | .func _ _ _, .nilFunc => some true
  | .func _ _ _, .func _ _ _ => some false
  | _, _ => none
/-- the literal nil of a type -/
def nilOf : TypeDesc → Value → Bool
  | .slice _, .slice none 0 0 => true
  | .pointer _, .pointer none => true
  | .interface _, .nilIface => true
  | .func _ _ _, .nilFunc => true
  | _, _ => false
def aeq (P : Program) (t : TypeId) (cst : Bool) (x y : Value) : Option Bool :=
  match P.underlying t with
  | some .bool => match x, y with
    | .bool a, .bool b => some (a == b)
    | _, _ => none
  | some d => if cst = true then (if nilOf d y = true then anil d x else if nilOf d x = true then anil d y else none) else none
  | none => none
/-- Structs of flat fields, field by field. -/
def fEq (P : Program) (xs ys : Array Value) : List Field → Option Bool
  | [] => some true
  | f :: fs =>
    if f.name = "_" then none else
    match xs[f.offset]?, ys[f.offset]?, P.underlying f.type with
    | some (.int k a), some (.int k' b), some (.int _) => if k = k' then (fEq P xs ys fs).map fun r => (a == b) && r else none
    | some (.bool a), some (.bool b), some .bool => (fEq P xs ys fs).map fun r => (a == b) && r
    | some (.string a), some (.string b), some .string => (fEq P xs ys fs).map fun r => (a.toList == b.toList) && r
    | _, _, _ => none
def plainEq (P : Program) (t : TypeId) : Bool := !P.stoodInHeld t && !P.eqGuardType P.depth t
def sEq (P : Program) (t : TypeId) (xs ys : Array Value) : Option Bool :=
  match P.underlying t with
  | some (.struct fs) => if plainEq P t = true then fEq P xs ys fs.toList else none
  | _ => none
theorem agg_inv {m : AM} {xs : Array Value} {x' : Value} (h : VR m (.agg xs) x') : ∃ xs', x' = .agg xs' ∧ ∀ (i : Nat) (v : Value), flat v = true → xs[i]? = some v → xs'[i]? = some v := by
  cases h with
  | fl h => exact ⟨xs, rfl, fun _ _ _ h => h⟩
  | agg hs h =>
    rename_i cs'
    refine ⟨cs', rfl, fun i v hv hi => ?_⟩
    have hlt : i < xs.size := (Array.getElem?_eq_some_iff.1 hi).1
    have := h i
    rw [hi] at this
    have e : cs'[i]? = some cs'[i] := Array.getElem?_eq_getElem (by omega)
    rw [e] at this ⊢
    exact congrArg some (VR.eq_flat this hv)
theorem fEq_run {P : Program} {xs ys xs' ys' : Array Value} (hx : ∀ (i : Nat) (v : Value), flat v = true → xs[i]? = some v → xs'[i]? = some v) (hy : ∀ (i : Nat) (v : Value), flat v = true → ys[i]? = some v → ys'[i]? = some v) (d : Nat) (w : World) :
    ∀ (fs : List Field) (b : Bool), fEq P xs ys fs = some b → (Op.eqFields (d + 1) xs' ys' fs).run P w = .ok b w
  | [], b, h => by simp only [fEq, Option.some.injEq] at h; subst h; simp [Op.eqFields]
  | f :: fs, b, h => by
    unfold fEq at h
    split at h
    · cases h
    · rename_i hn
      have hn' : f.name ≠ "_" := hn
      have fin : ∀ {u v : Value} {r : Bool}, (isAgg f.type).run P w = .ok false w → flat u = true → flat v = true → xs[f.offset]? = some u → ys[f.offset]? = some v → (Op.equalIn (d + 1) f.type u v).run P w = .ok r w →
          (fEq P xs ys fs).map (fun q => r && q) = some b → (Op.eqFields (d + 1) xs' ys' (f :: fs)).run P w = .ok b w := fun {u v r} ha hu hv h1 h2 he hm => by
        have p1 : (part f.type xs' f.offset).run P w = .ok u w := by simp [part, ha, hx _ _ hu h1]
        have p2 : (part f.type ys' f.offset).run P w = .ok v w := by simp [part, ha, hy _ _ hv h2]
        rw [Op.eqFields]
        simp only [if_pos hn', Sem.run_bind, p1, p2, he, Result.andThen_ok]
        cases hq : fEq P xs ys fs with
        | none => simp [hq] at hm
        | some q =>
          simp [hq] at hm
          subst hm
          cases r
          · simp
          · simpa using fEq_run hx hy d w fs q hq
      split at h
      · rename_i k a k' c j h1 h2 hu
        split at h
        · rename_i hk
          subst hk
          exact fin (run_aggA (by simp [aggA, hu]) w) rfl rfl h1 h2 (by rw [Op.equalIn]; simp [run_underlying hu]) h
        · cases h
      · rename_i a c h1 h2 hu
        exact fin (run_aggA (by simp [aggA, hu]) w) rfl rfl h1 h2 (by rw [Op.equalIn]; simp [run_underlying hu]) h
      · rename_i a c h1 h2 hu
        exact fin (run_aggA (by simp [aggA, hu]) w) rfl rfl h1 h2 (by rw [Op.equalIn]; simp [run_underlying hu, beq_toListBytes]) h
      · cases h
theorem sEq_run {P : Program} {m : AM} {t : TypeId} {xs ys : Array Value} {x' y' : Value} {b : Bool} (hx : VR m (.agg xs) x') (hy : VR m (.agg ys) y') (hl : sEq P t xs ys = some b) (op : BinOp) (p q : Operand) (w : World) :
    (eqGuard op t p q x' y').run P w = .ok () w ∧ (op = .eql → (binOp op t x' y').run P w = .ok (.bool b) w) ∧ (op = .neq → (binOp op t x' y').run P w = .ok (.bool (!b)) w) := by
  obtain ⟨xs', rfl, h1⟩ := agg_inv hx
  obtain ⟨ys', rfl, h2⟩ := agg_inv hy
  unfold sEq at hl
  split at hl
  · rename_i fs hu
    split at hl
    · rename_i hp
      simp only [plainEq, Bool.and_eq_true, Bool.not_eq_true'] at hp
      have hf : P.fieldsOf t = fs := by simp [Program.fieldsOf, hu]
      have he : (Op.equalIn (9999 + 1) t (.agg xs') (.agg ys')).run P w = .ok b w := by
        rw [run_equalIn_struct (P := P) w 9999 t xs' ys' (by rw [hf]; exact hu) hp.1, hf]
        exact fEq_run h1 h2 9998 w _ _ hl
      have he' : (Op.equal t (.agg xs') (.agg ys')).run P w = .ok b w := he
      refine ⟨run_eqGuard_agg (P := P) w op t p q xs' ys' hp.2, fun ho => ?_, fun ho => ?_⟩
      · subst ho
        have e : binOp .eql t (.agg xs') (.agg ys') = (do pure (.bool (← Op.equal t (.agg xs') (.agg ys')))) := rfl
        rw [e, Sem.run_bind, he']; rfl
      · subst ho
        have e : binOp .neq t (.agg xs') (.agg ys') = (do pure (.bool (!(← Op.equal t (.agg xs') (.agg ys'))))) := rfl
        rw [e, Sem.run_bind, he']; rfl
    · cases hl
  · cases hl
def abin (P : Program) (op : BinOp) (t : TypeId) (cst : Bool) (x y : Value) : Option Value :=
  match x, y with
  | .int k a, .int k' b => match op with
    | .shl => ashift .shl k a b
    | .shr => ashift .shr k a b
    | op => if k = k' then aint op k a b else none
  | .string a, .string b => match op with
    | .eql => some (.bool (a.toList == b.toList))
    | .neq => some (.bool (!(a.toList == b.toList)))
    | .add => if a.size + b.size ≤ 9223372036854775807 then some (.string (a ++ b)) else none
    | _ => none
  | .agg xs, .agg ys => match op with
    | .eql => (sEq P t xs ys).map .bool
    | .neq => (sEq P t xs ys).map fun b => .bool (!b)
    | _ => none
  | x, y => match op with
    | .eql => (aeq P t cst x y).map .bool
    | .neq => (aeq P t cst x y).map fun b => .bool (!b)
    | _ => none

theorem anil_rel {m : AM} {d : TypeDesc} {x x' : Value} {b : Bool} (h : VR m x x') (hl : anil d x = some b) : anil d x' = some b := by
  cases h with
  | jk v => cases d <;> simp [anil, junk] at hl
  | fl h => exact hl
  | ptr h => cases d <;> simp_all [anil]
  | sl h => cases d <;> simp_all [anil]
  | iface h => cases d <;> simp_all [anil]
  | agg h => cases d <;> simp [anil] at hl
  | tuple h => cases d <;> simp [anil] at hl
  | func h => cases d <;> simp_all [anil]

theorem equal_nil {P : Program} {t : TypeId} {d : TypeDesc} (hu : P.underlying t = some d) {x y : Value} {b : Bool} (hn : nilOf d y = true) (hl : anil d x = some b) (w : World) :
    (Op.equalIn (9999 + 1) t x y).run P w = .ok b w ∧ (Op.equalIn (9999 + 1) t y x).run P w = .ok b w := by
  cases d <;> simp only [nilOf, Bool.false_eq_true] at hn
  · -- pointer
    cases y <;> first | (simp at hn; done) | skip
    rename_i a
    cases a <;> first | (simp at hn; done) | skip
    cases x <;> simp only [anil, reduceCtorEq] at hl
    rename_i a
    cases a <;> simp only [anil, Option.some.injEq] at hl <;> subst hl <;> (constructor <;> rw [Op.equalIn] <;> simp [run_underlying hu])
  · -- slice
    cases y <;> first | (simp at hn; done) | skip
    rename_i a l c
    cases a <;> first | (simp at hn; done) | skip
    cases x <;> simp only [anil, reduceCtorEq] at hl
    rename_i a l c
    cases a <;> simp only [anil, Option.some.injEq] at hl <;> subst hl <;> (constructor <;> rw [Op.equalIn] <;> simp [run_underlying hu])
  · -- func
    cases y <;> first | (simp at hn; done) | skip
    cases x <;> simp only [anil, reduceCtorEq, Option.some.injEq] at hl <;> subst hl <;> (constructor <;> rw [Op.equalIn] <;> simp [run_underlying hu])
  · -- interface
    cases y <;> first | (simp at hn; done) | skip
    cases x <;> simp only [anil, reduceCtorEq, Option.some.injEq] at hl <;> subst hl <;> (constructor <;> rw [Op.equalIn] <;> simp [run_underlying hu])

theorem nilOf_flat {d : TypeDesc} {y : Value} (h : nilOf d y = true) : flat y = true := by
  cases d <;> simp only [nilOf, Bool.false_eq_true] at h <;> (cases y <;> first | (simp only [Bool.false_eq_true] at h; done) | rfl | skip)
  · rename_i a; cases a <;> first | rfl | simp at h
  · rename_i a l c
    cases a
    · cases l <;> cases c <;> first | rfl | simp at h
    · simp at h

theorem equal_run {P : Program} {m : AM} {t : TypeId} {cst : Bool} {x x' y y' : Value} {b : Bool} (hx : VR m x x') (hy : VR m y y') (hl : aeq P t cst x y = some b) (w : World) : (Op.equal t x' y').run P w = .ok b w := by
  show (Op.equalIn (9999 + 1) t x' y').run P w = .ok b w
  unfold aeq at hl
  split at hl
  · rename_i hu
    split at hl
    · obtain rfl := hx.eq_flat rfl
      obtain rfl := hy.eq_flat rfl
      injection hl with hl
      subst hl
      rw [Op.equalIn]
      simp [run_underlying hu]
    · cases hl
  · rename_i d hnb hu
    split at hl
    · split at hl
      · rename_i hn
        obtain rfl := hy.eq_flat (nilOf_flat hn)
        exact (equal_nil hu hn (anil_rel hx hl) w).1
      · split at hl
        · rename_i hn
          obtain rfl := hx.eq_flat (nilOf_flat hn)
          exact (equal_nil hu hn (anil_rel hy hl) w).2
        · cases hl
    · cases hl
  · cases hl

theorem int_run {P : Program} {op : BinOp} {k : IntKind} {a b : Int} {v : Value} (hs : op ≠ .shl) (hs' : op ≠ .shr) (hl : aint op k a b = some v) (t : TypeId) (w : World) : (binOp op t (.int k a) (.int k b)).run P w = .ok v w ∧ flat v = true := by
  cases op <;> simp only [aint, reduceCtorEq, ne_eq, not_true_eq_false, not_false_eq_true] at hl hs hs' <;>
    (first | (injection hl with hl; subst hl; exact ⟨by simp [binOp, Op.intArith, Op.intDiv, Op.intBits, Op.intCmp], rfl⟩) | (split at hl; · cases hl
                                                                                                                              · rename_i h0; injection hl with hl; subst hl; exact ⟨by simp [binOp, Op.intDiv, h0], rfl⟩))

theorem shift_run {P : Program} {op : BinOp} {k k' : IntKind} {a b : Int} {v : Value} (hl : ashift op k a b = some v) (t : TypeId) (w : World) : (binOp op t (.int k a) (.int k' b)).run P w = .ok v w ∧ flat v = true := by
  unfold ashift at hl
  split at hl
  · cases hl
  · rename_i h0
    cases op <;> simp only [reduceCtorEq] at hl <;> (injection hl with hl; subst hl; exact ⟨by simp [binOp, Op.shift, h0], rfl⟩)

def nilish : Value → Bool
  | .slice _ _ _ | .pointer _ | .nilIface | .iface _ _ | .nilFunc | .func _ _ _ => true
  | _ => false
theorem anil_ish {d : TypeDesc} {x : Value} {b : Bool} (h : anil d x = some b) : nilish x = true := by
  cases d <;> cases x <;> first | rfl | simp [anil] at h
theorem nilOf_ish {d : TypeDesc} {x : Value} (h : nilOf d x = true) : nilish x = true := by
  cases d <;> cases x <;> first | rfl | simp [nilOf] at h
theorem aeq_ish {P : Program} {m : AM} {t : TypeId} {cst : Bool} {x x' y y' : Value} {b : Bool} (hx : VR m x x') (hy : VR m y y') (hl : aeq P t cst x y = some b) :
    (∃ p q, x' = .bool p ∧ y' = .bool q) ∨ (cst = true ∧ nilish x' = true ∧ nilish y' = true) := by
  unfold aeq at hl
  split at hl
  · split at hl
    · obtain rfl := hx.eq_flat rfl
      obtain rfl := hy.eq_flat rfl
      exact .inl ⟨_, _, rfl, rfl⟩
    · cases hl
  · split at hl
    · rename_i hc
      split at hl
      · rename_i hn
        obtain rfl := hy.eq_flat (nilOf_flat hn)
        exact .inr ⟨hc, anil_ish (anil_rel hx hl), nilOf_ish hn⟩
      · split at hl
        · rename_i hn
          obtain rfl := hx.eq_flat (nilOf_flat hn)
          exact .inr ⟨hc, nilOf_ish hn, anil_ish (anil_rel hy hl)⟩
        · cases hl
    · cases hl
  · cases hl

def cstA : Operand → Operand → Bool
  | .const _, _ | _, .const _ => true
  | _, _ => false

theorem nil_run {P : Program} {op : BinOp} {t : TypeId} {a b : Operand} {x y : Value} {r : Bool} (h : (∃ p q, x = .bool p ∧ y = .bool q) ∨ (cstA a b = true ∧ nilish x = true ∧ nilish y = true)) {w : World} (he : (Op.equal t x y).run P w = .ok r w) :
    (op = .eql → ((do eqGuard op t a b x y; binOp op t x y) : Sem Value).run P w = .ok (.bool r) w) ∧ (op = .neq → ((do eqGuard op t a b x y; binOp op t x y) : Sem Value).run P w = .ok (.bool (!r)) w) := by
  have hg : (eqGuard op t a b x y).run P w = .ok () w := by
    rcases h with ⟨p, q, rfl, rfl⟩ | ⟨h1, h2, h3⟩
    · cases op <;> rfl
    · have hc : ((a matches .const _) || (b matches .const _)) = true := by cases a <;> cases b <;> first | rfl | simp [cstA] at h1
      cases x <;> simp only [nilish, Bool.false_eq_true] at h2 <;> cases y <;> simp only [nilish, Bool.false_eq_true] at h3 <;> cases op <;> first | rfl | (simp [eqGuard, hc]; done) | skip
      all_goals (cases a <;> cases b <;> first | (simp [cstA] at h1; done) | (simp [eqGuard]; done))
  refine ⟨fun ho => ?_, fun ho => ?_⟩ <;> subst ho <;> rw [Sem.run_bind, hg, Result.andThen_ok]
  · have e : binOp .eql t x y = (do pure (.bool (← Op.equal t x y))) := by
      rcases h with ⟨p, q, rfl, rfl⟩ | ⟨h1, h2, h3⟩
      · rfl
      · cases x <;> simp only [nilish, Bool.false_eq_true] at h2 <;> cases y <;> simp only [nilish, Bool.false_eq_true] at h3 <;> rfl
    rw [e, Sem.run_bind, he]; rfl
  · have e : binOp .neq t x y = (do pure (.bool (!(← Op.equal t x y)))) := by
      rcases h with ⟨p, q, rfl, rfl⟩ | ⟨h1, h2, h3⟩
      · rfl
      · cases x <;> simp only [nilish, Bool.false_eq_true] at h2 <;> cases y <;> simp only [nilish, Bool.false_eq_true] at h3 <;> rfl
    rw [e, Sem.run_bind, he]; rfl

theorem bin_sound {P : Program} {m : AM} {op : BinOp} {t : TypeId} {a b : Operand} {x x' y y' v : Value} (hx : VR m x x') (hy : VR m y y') (hl : abin P op t (cstA a b) x y = some v) (w : World) :
    ((do eqGuard op t a b x' y'; binOp op t x' y') : Sem Value).run P w = .ok v w ∧ flat v = true := by
  unfold abin at hl
  split at hl
  · rename_i k i k' j
    obtain rfl := hx.eq_flat rfl
    obtain rfl := hy.eq_flat rfl
    have hg : (eqGuard op t a b (.int k i) (.int k' j)).run P w = .ok () w := by cases op <;> rfl
    rw [Sem.run_bind, hg, Result.andThen_ok]
    split at hl
    · exact shift_run hl t w
    · exact shift_run hl t w
    · rename_i h1 h2
      split at hl
      · rename_i hk
        subst hk
        exact int_run h1 h2 hl t w
      · cases hl
  · rename_i s u
    obtain rfl := hx.eq_flat rfl
    obtain rfl := hy.eq_flat rfl
    have hg : (eqGuard op t a b (.string s) (.string u)).run P w = .ok () w := by cases op <;> rfl
    rw [Sem.run_bind, hg, Result.andThen_ok]
    split at hl
    · injection hl with hl; subst hl; exact ⟨by simp [binOp, Op.stringOp], rfl⟩
    · injection hl with hl; subst hl; exact ⟨by simp [binOp, Op.stringOp], rfl⟩
    · split at hl
      · rename_i hsz
        injection hl with hl; subst hl
        have : ¬ (((s.size + u.size : Nat) : Int) > IntKind.i64.max) := by simp [IntKind.max, IntKind.bits, IntKind.signed]; omega
        refine ⟨?_, rfl⟩
        simp only [binOp, Op.stringOp]
        rw [if_neg this]; rfl
      · cases hl
    · cases hl
  · rename_i xs ys
    split at hl
    · cases he : sEq P t xs ys with
      | none => simp [he] at hl
      | some r =>
        simp [he] at hl
        subst hl
        obtain ⟨h1, h2, _⟩ := sEq_run hx hy he .eql a b w
        exact ⟨by rw [Sem.run_bind, h1, Result.andThen_ok]; exact h2 rfl, rfl⟩
    · cases he : sEq P t xs ys with
      | none => simp [he] at hl
      | some r =>
        simp [he] at hl
        subst hl
        obtain ⟨h1, _, h2⟩ := sEq_run hx hy he .neq a b w
        exact ⟨by rw [Sem.run_bind, h1, Result.andThen_ok]; exact h2 rfl, rfl⟩
    · cases hl
  · split at hl
    · cases he : aeq P t (cstA a b) x y with
      | none => simp [he] at hl
      | some r =>
        simp [he] at hl
        subst hl
        exact ⟨(nil_run (aeq_ish hx hy he) (equal_run hx hy he w)).1 rfl, rfl⟩
    · cases he : aeq P t (cstA a b) x y with
      | none => simp [he] at hl
      | some r =>
        simp [he] at hl
        subst hl
        exact ⟨(nil_run (aeq_ish hx hy he) (equal_run hx hy he w)).2 rfl, rfl⟩
    · cases hl

end Go.Lay

set_option linter.unusedVariables false
set_option linter.unusedSimpArgs false
namespace Go.Lay
open Go Go.RowKit

def alen (P : Program) (ts : Array TypeId) (x : Value) : Option Value :=
  match ts[0]? with
  | some t => match P.underlying t, x with
    | some .string, .string s => some (.int .i64 (s.size : Int))
    | some (.slice _), .slice _ n _ => some (.int .i64 (n : Int))
    | _, _ => none
  | none => none
def abuiltin (P : Program) (b : Builtin) (ts : Array TypeId) (args : List Value) (α : AH) : Option (Value × AH) :=
  match b, args with
  | .len, [x] => (alen P ts x).map fun v => (v, α)
  | .cap, [.slice none 0 0] => match ts[0]? with
    | some t => match P.underlying t with
      | some (.slice _) => some (.int .i64 0, α)
      | _ => none
    | none => none
  | .append, [s, x] => aappend P ts s x α
  | .copy, [d, x] => acopy P ts d x α
  | .max, [.int k x, .int _ y] => some (.int k (if y > x then y else x), α)
  | .min, [.int k x, .int _ y] => some (.int k (if y < x then y else x), α)
  | _, _ => none
def apart (P : Program) (t : TypeId) (cs : Array Value) (off : Nat) : Option Value :=
  match aggA P t with
  | some false => cs[off]?
  | some true => match sizeA P t with
    | some n => if off + n ≤ cs.size then some (.agg (cs.extract off (off + n))) else none
    | none => none
  | none => none
def afield (P : Program) (t : TypeId) (x : Value) (f : Nat) : Option Value :=
  match P.underlying t, x with
  | some (.struct fs), .agg cs => match fs[f]? with
    | some fd => apart P fd.type cs fd.offset
    | none => none
  | _, _ => none
def aindex (P : Program) (t : TypeId) (x i : Value) : Option Value :=
  match i with
  | .int _ n => match P.underlying t, x with
    | some (.array len e), .agg cs => if 0 ≤ n ∧ n < (len : Int) then (sizeA P e).bind fun sz => apart P e cs (n.toNat * sz) else none
    | some .string, .string s => if 0 ≤ n then (s[n.toNat]?).map fun b => .int .u8 (b.toNat : Int) else none
    | _, _ => none
  | _ => none
def aextract (x : Value) (i : Nat) : Option Value :=
  match x with
  | .tuple vs => vs[i]?
  | _ => none
def anilCheck (x : Value) : Option Value :=
  match x with
  | .pointer (some _) => some x
  | .iface _ _ => some x
  | .func (.func _) _ _ => some x
  | _ => none
def aun (op : UnOp) (x : Value) : Option Value :=
  match op, x with
  | .not, .bool b => some (.bool (!b))
  | .neg, .int k n => some (.int k (k.wrap (0 - n)))
  | .xor, .int k n => some (.int k (k.wrap (BitVec.ofInt k.bits (if k.signed then -1 else k.max) ^^^ BitVec.ofInt k.bits n).toNat))
  | _, _ => none
def aconv (P : Program) (src dst : TypeId) (x : Value) : Option Value :=
  match P.underlying src, P.underlying dst, x with
  | some _, some (.int k), .int _ n => some (.int k (k.wrap n))
  | some _, some .string, .int _ n => some (.string (Utf8.encode n))
  | some .string, some .string, .string s => some (.string s)
  | _, _, _ => none
def aiface (P : Program) (t : TypeId) (x : Value) : Option Value :=
  match P.underlying t with
  | some (.interface _) => none
  | some _ => some (.iface t x)
  | none => none
def apick (c a b : Value) : Option Value :=
  match c with
  | .bool t => match a, b with
    | .bool x, .bool y => some (.bool (bif t then x else y))
    | a, b => some (if t = true then a else b)
  | _ => none

def keep (α : AH) (v : Option Value) : Option (Value × AH) := v.map fun v => (v, α)
@[simp] theorem keep_some (α : AH) (v : Value) : keep α (some v) = some (v, α) := rfl
@[simp] theorem keep_none (α : AH) : keep α none = none := rfl

def aop (P : Program) (op : Op) (s : AS) (α : AH) : Option (Value × AH) :=
  match op with
  | .move x | .assign x => some (ev s x, α)
  | .pick c a b => keep α (apick (ev s c) (ev s a) (ev s b))
  | .alloc e => aalloc P e α
  | .box e x => abox e (ev s x) α
  | .build t ps => keep α (abuild P t (ps.toList.map fun p => (p.1, ev s p.2)))
  | .buildSlice t n ps => abuildSlice P t n (ps.toList.map fun p => (p.1, ev s p.2)) α
  | .load t a => keep α (aload P t (ev s a) α)
  | .store t a x => (astore P t (ev s a) (ev s x) α).map fun α' => (undef, α')
  | .nilCheck x => keep α (anilCheck (ev s x))
  | .binOp op t x y _ => keep α (abin P op t (cstA x y) (ev s x) (ev s y))
  | .unOp op _ x => keep α (aun op (ev s x))
  | .convert src dst x => keep α (aconv P src dst (ev s x))
  | .makeInterface t x => keep α (aiface P t (ev s x))
  | .makeFunc fn f c => some (.func fn (f.map (ev s)) (c.map (ev s)), α)
  | .makeSlice t l c => amake P t (ev s l) (ev s c) α
  | .slice t x lo hi mx => keep α (aslice P t (ev s x) (lo.map (ev s)) (hi.map (ev s)) (mx.map (ev s)) α)
  | .fieldAddr t x f => keep α (afieldAddr P t (ev s x) f)
  | .field t x f => keep α (afield P t (ev s x) f)
  | .indexAddr t x i => keep α (aindexAddr P t (ev s x) (ev s i))
  | .index t x i => keep α (aindex P t (ev s x) (ev s i))
  | .extract x i => keep α (aextract (ev s x) i)
  | .call ⟨.builtin b, args, ts⟩ => abuiltin P b ts (args.toList.map (ev s)) α
  | _ => none

theorem VR.agg_inv {m : AM} {cs : Array Value} {v' : Value} (h : VR m (.agg cs) v') : ∃ cs', v' = .agg cs' ∧ VRL m cs.toList cs'.toList := by
  cases h with
  | fl h => simp [Go.Lay.flat] at h
  | agg hs h => exact ⟨_, rfl, VRL.of_array hs h⟩
theorem VR.tuple_inv {m : AM} {cs : Array Value} {v' : Value} (h : VR m (.tuple cs) v') : ∃ cs', v' = .tuple cs' ∧ VRL m cs.toList cs'.toList := by
  cases h with
  | fl h => simp [Go.Lay.flat] at h; subst h; exact ⟨#[], rfl, VRL.nil m⟩
  | tuple hs h => exact ⟨_, rfl, VRL.of_array hs h⟩

theorem part_sound {P : Program} {m : AM} {t : TypeId} {cs cs' : Array Value} {off : Nat} {r : Value} (h : VRL m cs.toList cs'.toList) (hl : apart P t cs off = some r) :
    ∃ r', (∀ w, (part t cs' off).run P w = .ok r' w) ∧ VR m r r' := by
  unfold apart at hl
  split at hl
  · rename_i ha
    obtain ⟨r', h1, h2⟩ := h.2 off r (by simpa using hl)
    exact ⟨r', fun w => by simp [part, run_aggA ha, show cs'[off]? = some r' by simpa using h1], h2⟩
  · rename_i ha
    split at hl
    · rename_i n hn
      split at hl
      · rename_i hfit
        injection hl with hl
        subst hl
        refine ⟨.agg (cs'.extract off (off + n)), fun w => by simp [part, run_aggA ha, run_sizeA hn], ?_⟩
        have e : ∀ c : Array Value, c.extract off (off + n) = ((c.toList.take (off + n)).drop off).toArray := fun c => by
          apply Array.ext'
          simp [List.drop_take]
        rw [e cs, e cs']
        exact ((h.take (off + n)).drop off).agg
      · cases hl
    · cases hl
  · cases hl

theorem field_sound {P : Program} {m : AM} {t : TypeId} {x x' r : Value} (hx : VR m x x') {f : Nat} (hl : afield P t x f = some r) :
    ∃ r', (∀ w, (Instr.field t x' f).run P w = .ok r' w) ∧ VR m r r' := by
  unfold afield at hl
  split at hl
  · rename_i fs cs hu
    obtain ⟨cs', rfl, hv⟩ := hx.agg_inv
    split at hl
    · rename_i fd hfd
      obtain ⟨r', h1, h2⟩ := part_sound hv hl
      exact ⟨r', fun w => by simp [Instr.field, run_underlying hu, hfd, asAgg, h1], h2⟩
    · cases hl
  · cases hl

theorem index_sound {P : Program} {m : AM} {t : TypeId} {x x' i i' r : Value} (hx : VR m x x') (hi : VR m i i') (hl : aindex P t x i = some r) :
    ∃ r', (∀ w, (Instr.index t x' i').run P w = .ok r' w) ∧ VR m r r' := by
  unfold aindex at hl
  split at hl
  · rename_i k n
    obtain rfl := hi.eq_flat rfl
    split at hl
    · rename_i len e cs hu
      obtain ⟨cs', rfl, hv⟩ := hx.agg_inv
      split at hl
      · rename_i hn
        cases hs : sizeA P e with
        | none => simp [hs] at hl
        | some sz =>
          simp only [hs, Option.bind_some] at hl
          obtain ⟨r', h1, h2⟩ := part_sound hv hl
          exact ⟨r', fun w => by simp [Instr.index, asIntOf, run_underlying hu, hn, run_sizeA hs, h1], h2⟩
      · cases hl
    · rename_i s hu
      obtain rfl := hx.eq_flat rfl
      split at hl
      · rename_i hn
        cases hb : s[n.toNat]? with
        | none => simp [hb] at hl
        | some b =>
          simp [hb] at hl
          subst hl
          exact ⟨_, fun w => by simp [Instr.index, asIntOf, run_underlying hu, hn, hb], .fl rfl⟩
      · cases hl
    · cases hl
  · cases hl

theorem pick_sound {m : AM} {c a b c' a' b' r : Value} (hc : VR m c c') (ha : VR m a a') (hb : VR m b b') (hl : apick c a b = some r) :
    ∃ t, c' = .bool t ∧ VR m r (if t = true then a' else b') := by
  unfold apick at hl
  split at hl
  · rename_i t
    obtain rfl := hc.eq_flat rfl
    refine ⟨t, rfl, ?_⟩
    split at hl
    · obtain rfl := ha.eq_flat rfl
      obtain rfl := hb.eq_flat rfl
      injection hl with hl
      subst hl
      cases t <;> exact .fl rfl
    · injection hl with hl
      subst hl
      cases t
      · exact hb
      · exact ha
  · cases hl

theorem keep_inv {α α' : AH} {v : Option Value} {r : Value} (h : keep α v = some (r, α')) : v = some r ∧ α' = α := by
  cases v with
  | none => cases h
  | some v => simp at h; exact ⟨by rw [h.1], h.2.symm⟩

theorem parts_rel {m : AM} {N : Nat} {s : AS} {a : Act} (h : SR m N s a) (ps : Array (Nat × Operand)) :
    (ps.toList.map fun p => (p.1, ev s p.2)).length = (ps.map fun p => (p.1, a.eval p.2)).toList.length ∧
    ∀ (i k : Nat) (x : Value), (ps.toList.map fun p => (p.1, ev s p.2))[i]? = some (k, x) → ∃ x', (ps.map fun p => (p.1, a.eval p.2)).toList[i]? = some (k, x') ∧ VR m x x' := by
  refine ⟨by simp, fun i k x hx => ?_⟩
  simp only [List.getElem?_map, Option.map_eq_some_iff] at hx
  obtain ⟨p, hp, he⟩ := hx
  obtain ⟨rfl, rfl⟩ := Prod.mk.inj he
  refine ⟨a.eval p.2, ?_, h.ev p.2⟩
  rw [Array.toList_map, List.getElem?_map, hp]; rfl

theorem opt_rel {m : AM} {N : Nat} {s : AS} {a : Act} (h : SR m N s a) (o : Option Operand) : (∀ v, o.map (ev s) = some v → ∃ v', o.map a.eval = some v' ∧ VR m v v') ∧ (o.map (ev s) = none → o.map a.eval = none) := by
  cases o with
  | none => exact ⟨(fun v h => by cases h), fun _ => rfl⟩
  | some x => exact ⟨fun v hv => by simp at hv; subst hv; exact ⟨_, rfl, h.ev x⟩, (fun h => by cases h)⟩

theorem arr_rel {m : AM} {N : Nat} {s : AS} {a : Act} (h : SR m N s a) (xs : Array Operand) : (xs.map (ev s)).size = (xs.map a.eval).size ∧ ∀ i : Nat, VR m ((xs.map (ev s))[i]?.getD undef) ((xs.map a.eval)[i]?.getD undef) := by
  refine ⟨by simp, fun i => ?_⟩
  rcases Nat.lt_or_ge i xs.size with hi | hi
  · simp [hi]; exact h.ev _
  · simp [hi]; exact VR.undef m

/-- Operations that look at no memory (but at how long the elements of a row are). -/
def quietA : Op → Bool
  | .move _ | .assign _ | .pick .. | .build .. | .nilCheck _ | .binOp .. | .unOp .. | .convert .. | .makeInterface .. | .makeFunc .. | .slice .. | .fieldAddr .. | .field .. | .indexAddr .. | .index .. | .extract .. => true
  | .call ⟨.builtin .len, _, _⟩ | .call ⟨.builtin .max, _, _⟩ | .call ⟨.builtin .min, _, _⟩ => true
  | _ => false

theorem one_rel {m : AM} {N : Nat} {s : AS} {a : Act} (hs : SR m N s a) (args : Array Operand) (x : Value) (hx : args.toList.map (ev s) = [x]) : ∃ x', args.toList.map a.eval = [x'] ∧ VR m x x' := by
  match h : args.toList, hx with
  | [y], hx => simp at hx; subst hx; exact ⟨_, rfl, hs.ev y⟩
theorem two_rel {m : AM} {N : Nat} {s : AS} {a : Act} (hs : SR m N s a) (args : Array Operand) (x y : Value) (hx : args.toList.map (ev s) = [x, y]) : ∃ x' y', args.toList.map a.eval = [x', y'] ∧ VR m x x' ∧ VR m y y' := by
  match h : args.toList, hx with
  | [p, q], hx => simp at hx; obtain ⟨rfl, rfl⟩ := hx; exact ⟨_, _, rfl, hs.ev p, hs.ev q⟩
theorem run_builtin {dst : Option Tmp} {b : Builtin} {args : Array Operand} {ts : Array TypeId} {type : TypeId} {pos : String} {after : Array Edge} {guard : Option (Nat × Bool)} {a : Act} (args' : List Value) (ha : args.toList.map a.eval = args') :
    (execOp a.eval ⟨dst, .call ⟨.builtin b, args, ts⟩, type, pos, after, guard⟩) = builtin b ts type (args.map fun | .const _ => true | _ => false) args'.toArray := by
  have : args.map a.eval = args'.toArray := by rw [← ha]; apply Array.ext'; simp
  simp only [execOp, resolve, this]
  rfl

theorem quiet_sound {P : Program} {G : World} {m : AM} {α α' : AH} {w : World} (h : Rel P G m α w) {N : Nat} {s : AS} {a : Act} (hs : SR m N s a) {o : Oper} {r : Value} (hq : quietA o.op = true) (hl : aop P o.op s α = some (r, α')) :
    α' = α ∧ ∃ r', (∀ w, (execOp a.eval o).run P w = .ok (.value r') w) ∧ VR m r r' := by
  obtain ⟨dst, op, type, pos, after, guard⟩ := o
  simp only at hl hq
  cases op <;> simp only [quietA, Bool.false_eq_true] at hq
  case move x => simp only [aop, Option.some.injEq, Prod.mk.injEq] at hl; obtain ⟨rfl, rfl⟩ := hl; exact ⟨rfl, _, fun w => rfl, hs.ev x⟩
  case assign x => simp only [aop, Option.some.injEq, Prod.mk.injEq] at hl; obtain ⟨rfl, rfl⟩ := hl; exact ⟨rfl, _, fun w => rfl, hs.ev x⟩
  case makeFunc fn f c =>
    simp only [aop, Option.some.injEq, Prod.mk.injEq] at hl
    obtain ⟨rfl, rfl⟩ := hl
    obtain ⟨f1, f2⟩ := arr_rel hs f
    obtain ⟨c1, c2⟩ := arr_rel hs c
    exact ⟨rfl, _, fun w => rfl, .func f1 f2 c1 c2⟩
  case call c =>
    obtain ⟨callee, args, ts⟩ := c
    cases callee with
    | value f => simp [aop] at hl
    | invoke r n => simp [aop] at hl
    | builtin b =>
      simp only [aop] at hl
      unfold abuiltin at hl
      split at hl
      · rename_i x hargs
        obtain ⟨x', e1, hv⟩ := one_rel hs args x hargs
        cases hlen : alen P ts x with
        | none => simp [hlen] at hl
        | some v =>
          simp [hlen] at hl
          obtain ⟨rfl, rfl⟩ := hl
          unfold alen at hlen
          split at hlen
          · rename_i t ht
            split at hlen
            · rename_i sx hu
              injection hlen with hlen
              subst hlen
              obtain rfl := hv.eq_flat rfl
              exact ⟨rfl, _, fun w => by rw [run_builtin _ e1]; simp [builtin, Builtin.len_, ht, run_underlying hu, goInt], .fl rfl⟩
            · rename_i e0 ad n c hu
              injection hlen with hlen
              subst hlen
              obtain ⟨ad', c', rfl⟩ : ∃ ad' c', x' = .slice ad' n c' := by cases hv with | fl h => exact ⟨_, _, rfl⟩ | sl => exact ⟨_, _, rfl⟩
              exact ⟨rfl, _, fun w => by rw [run_builtin _ e1]; simp [builtin, Builtin.len_, ht, run_underlying hu, goInt], .fl rfl⟩
            · cases hlen
          · cases hlen
      · simp [quietA] at hq
      · simp [quietA] at hq
      · simp [quietA] at hq
      · rename_i k i k' j hargs
        obtain ⟨x', y', e1, hv1, hv2⟩ := two_rel hs args _ _ hargs
        obtain rfl := hv1.eq_flat rfl
        obtain rfl := hv2.eq_flat rfl
        simp only [Option.some.injEq, Prod.mk.injEq] at hl
        obtain ⟨rfl, rfl⟩ := hl
        exact ⟨rfl, _, fun w => by rw [run_builtin _ e1]; simp [builtin, Builtin.max_, Builtin.max2], .fl rfl⟩
      · rename_i k i k' j hargs
        obtain ⟨x', y', e1, hv1, hv2⟩ := two_rel hs args _ _ hargs
        obtain rfl := hv1.eq_flat rfl
        obtain rfl := hv2.eq_flat rfl
        simp only [Option.some.injEq, Prod.mk.injEq] at hl
        obtain ⟨rfl, rfl⟩ := hl
        exact ⟨rfl, _, fun w => by rw [run_builtin _ e1]; simp [builtin, Builtin.min_, Builtin.min2], .fl rfl⟩
      · cases hl
  all_goals
    have hk := keep_inv hl
    clear hl
    obtain ⟨hl, rfl⟩ := hk
    refine ⟨rfl, ?_⟩
  case pick c x y =>
    obtain ⟨t, ht, hv⟩ := pick_sound (hs.ev c) (hs.ev x) (hs.ev y) hl
    exact ⟨_, fun w => by simp [execOp, ht, asBool], hv⟩
  case build t ps =>
    obtain ⟨r', h1, h2⟩ := build_sound (parts_rel hs ps) hl
    exact ⟨r', fun w => by have h1 := h1 w; simp only [Array.toArray_toList] at h1; simp only [execOp, Sem.run_bind, h1, Result.andThen_ok]; rfl, h2⟩
  case nilCheck x =>
    have hv := hs.ev x
    generalize hx' : a.eval x = x' at hv
    generalize ev s x = xa at hl hv
    have : (∀ w, (execOp a.eval ⟨dst, .nilCheck x, type, pos, after, guard⟩).run P w = .ok (.value x') w) ∧ xa = r := by
      unfold anilCheck at hl
      split at hl
      · injection hl with hl
        rename_i ad
        obtain ⟨ad', rfl⟩ : ∃ ad', x' = .pointer (some ad') := by cases hv with | fl h => exact ⟨_, rfl⟩ | ptr h => exact ⟨_, rfl⟩
        exact ⟨fun w => by simp [execOp, hx'], hl⟩
      · injection hl with hl
        obtain ⟨t', v', rfl⟩ : ∃ t' v', x' = .iface t' v' := by cases hv with | fl h => exact ⟨_, _, rfl⟩ | iface h => exact ⟨_, _, rfl⟩
        exact ⟨fun w => by simp [execOp, hx'], hl⟩
      · injection hl with hl
        rename_i f q1 q2
        obtain ⟨p1, p2, rfl⟩ : ∃ p1 p2, x' = .func (.func f) p1 p2 := by cases hv with | fl h => exact ⟨_, _, rfl⟩ | func => exact ⟨_, _, rfl⟩
        exact ⟨fun w => by simp [execOp, hx'], hl⟩
      · cases hl
    obtain ⟨h1, rfl⟩ := this
    exact ⟨x', h1, hv⟩
  case binOp op t x y yt =>
    refine ⟨r, fun w => ?_, .fl (bin_sound (hs.ev x) (hs.ev y) hl w).2⟩
    simp only [execOp]
    rw [Sem.run_bind, (bin_sound (hs.ev x) (hs.ev y) hl w).1]
    rfl
  case unOp op t x =>
    have hv := hs.ev x
    generalize hx' : a.eval x = x' at hv
    generalize ev s x = xa at hl hv
    unfold aun at hl
    split at hl <;> first | (cases hl; done) | skip
    all_goals
      injection hl with hl
      subst hl
      obtain rfl := hv.eq_flat rfl
      exact ⟨_, fun w => by simp [execOp, hx', Op.unary, Op.intArith, Op.intBits], .fl rfl⟩
  case convert src dst' x =>
    have hv := hs.ev x
    generalize hx' : a.eval x = x' at hv
    generalize ev s x = xa at hl hv
    unfold aconv at hl
    split at hl
    · rename_i d1 k k' n hu1 hu2
      injection hl with hl
      subst hl
      obtain rfl := hv.eq_flat rfl
      exact ⟨_, fun w => by simp [execOp, hx', convert, run_underlying hu1, run_underlying hu2, Conv.intToInt], .fl rfl⟩
    · rename_i d1 k n hu1 hu2
      injection hl with hl
      subst hl
      obtain rfl := hv.eq_flat rfl
      exact ⟨_, fun w => by simp [execOp, hx', convert, run_underlying hu1, run_underlying hu2, Conv.intToString], .fl rfl⟩
    · rename_i sx hu1 hu2
      injection hl with hl
      subst hl
      obtain rfl := hv.eq_flat rfl
      exact ⟨_, fun w => by simp [execOp, hx', convert, run_underlying hu1, run_underlying hu2], .fl rfl⟩
    · cases hl
  case makeInterface t x =>
    unfold aiface at hl
    split at hl
    · cases hl
    · rename_i d hd hu
      injection hl with hl
      subst hl
      refine ⟨.iface t (a.eval x), fun w => ?_, .iface (hs.ev x)⟩
      cases d <;> first | (exfalso; exact hd _ rfl; done) | (simp [execOp, Instr.makeInterface, run_underlying hu]; done)
    · cases hl
  case slice t x lo hi mx =>
    obtain ⟨r', h1, h2⟩ := slice_sound h (hs.ev x) (opt_rel hs lo).1 (opt_rel hs lo).2 (opt_rel hs hi).1 (opt_rel hs hi).2 (opt_rel hs mx).1 (opt_rel hs mx).2 hl
    exact ⟨r', fun w => by simp only [execOp, Sem.run_bind, h1, Result.andThen_ok]; rfl, h2⟩
  case fieldAddr t x f =>
    obtain ⟨r', h1, h2⟩ := fieldAddr_sound (hs.ev x) hl
    exact ⟨r', fun w => by simp only [execOp, Sem.run_bind, h1, Result.andThen_ok]; rfl, h2⟩
  case field t x f =>
    obtain ⟨r', h1, h2⟩ := field_sound (hs.ev x) hl
    exact ⟨r', fun w => by simp only [execOp, Sem.run_bind, h1, Result.andThen_ok]; rfl, h2⟩
  case indexAddr t x i =>
    obtain ⟨r', h1, h2⟩ := indexAddr_sound (hs.ev x) (hs.ev i) hl
    exact ⟨r', fun w => by simp only [execOp, Sem.run_bind, h1, Result.andThen_ok]; rfl, h2⟩
  case index t x i =>
    obtain ⟨r', h1, h2⟩ := index_sound (hs.ev x) (hs.ev i) hl
    exact ⟨r', fun w => by simp only [execOp, Sem.run_bind, h1, Result.andThen_ok]; rfl, h2⟩
  case extract x i =>
    have hv := hs.ev x
    generalize hx' : a.eval x = x' at hv
    generalize ev s x = xa at hl hv
    unfold aextract at hl
    split at hl
    · obtain ⟨cs', rfl, hvl⟩ := hv.tuple_inv
      obtain ⟨r', h1, h2⟩ := hvl.2 i r (by simpa using hl)
      exact ⟨r', fun w => by simp [execOp, hx', Instr.extract, show cs'[i]? = some r' by simpa using h1], h2⟩
    · cases hl

/-- What an operation comes to: its value, the new memory. -/
theorem op_sound {P : Program} {G : World} {m : AM} {α α' : AH} {w : World} (h : Rel P G m α w) {N : Nat} {s : AS} {a : Act} (hs : SR m N s a) {o : Oper} {r : Value} (hl : aop P o.op s α = some (r, α')) :
    ∃ m' r' w', ((execOp a.eval o).run P w = .ok (.value r') w' ∨ ((execOp a.eval o).run P w = .ok .skip w' ∧ r' = undef)) ∧ m.le m' ∧ Rel P G m' α' w' ∧ VR m' r r' := by
  by_cases hq : quietA o.op = true
  · obtain ⟨rfl, r', h1, h2⟩ := quiet_sound h hs hq hl
    exact ⟨m, r', w, .inl (h1 w), .refl m, h, h2⟩
  obtain ⟨dst, op, type, pos, after, guard⟩ := o
  simp only at hl hq
  cases op with
  | alloc e =>
    obtain ⟨m', r', w', h1, h2⟩ := alloc_sound h hl
    exact ⟨m', r', w', .inl (by simp [execOp, h1]), h2⟩
  | box e x =>
    obtain ⟨m', r', w', h1, h2⟩ := box_sound h (hs.ev x) hl
    exact ⟨m', r', w', .inl (by simp only [execOp, Sem.run_bind, h1, Result.andThen_ok]; rfl), h2⟩
  | buildSlice t n ps =>
    obtain ⟨m', r', w', h1, h2⟩ := buildSlice_sound h (parts_rel hs ps) hl
    exact ⟨m', r', w', .inl (by simp only [Array.toArray_toList] at h1; simp only [execOp, Sem.run_bind, h1, Result.andThen_ok]; rfl), h2⟩
  | load t x =>
    have hq := keep_inv hl
    clear hl
    obtain ⟨hl, rfl⟩ := hq
    obtain ⟨r', h1, h2⟩ := load_sound h (hs.ev x) hl
    exact ⟨m, r', w, .inl (by simp only [execOp, Sem.run_bind, h1, Result.andThen_ok]; rfl), .refl m, h, h2⟩
  | store t x y =>
    simp only [aop] at hl
    cases hst : astore P t (ev s x) (ev s y) α with
    | none => simp [hst] at hl
    | some α1 =>
      simp [hst] at hl
      obtain ⟨rfl, rfl⟩ := hl
      obtain ⟨w', h1, h2⟩ := store_sound h (hs.ev x) (hs.ev y) hst
      exact ⟨m, undef, w', .inr ⟨by simp only [execOp, Sem.run_bind, h1, Result.andThen_ok]; rfl, rfl⟩, .refl m, h2, VR.undef m⟩
  | makeSlice t l c =>
    obtain ⟨m', r', w', h1, h2⟩ := make_sound h (hs.ev l) (hs.ev c) hl
    exact ⟨m', r', w', .inl (by simp only [execOp, Sem.run_bind, h1, Result.andThen_ok]; rfl), h2⟩
  | call c =>
    obtain ⟨callee, args, ts⟩ := c
    cases callee with
    | value f => simp [aop] at hl
    | invoke r n => simp [aop] at hl
    | builtin b =>
      simp only [aop] at hl
      unfold abuiltin at hl
      split at hl
      · exact absurd rfl hq
      · rename_i hargs
        obtain ⟨x', e1, hv⟩ := one_rel hs args _ hargs
        obtain rfl := hv.eq_flat rfl
        split at hl
        · rename_i t ht
          split at hl
          · rename_i e0 hu
            simp at hl
            obtain ⟨rfl, rfl⟩ := hl
            exact ⟨m, _, w, .inl (by rw [run_builtin _ e1]; simp [builtin, Builtin.cap_, ht, run_underlying hu, goInt]), .refl m, h, .fl rfl⟩
          · cases hl
        · cases hl
      · rename_i x y hargs
        obtain ⟨x', y', e1, hv1, hv2⟩ := two_rel hs args _ _ hargs
        obtain ⟨m', r', w', h1, h2⟩ := append_sound (ty := type) h hv1 hv2 hl
        exact ⟨m', r', w', .inl (by rw [run_builtin _ e1]; simp only [builtin, Sem.run_bind, h1, Result.andThen_ok]; rfl), h2⟩
      · rename_i x y hargs
        obtain ⟨x', y', e1, hv1, hv2⟩ := two_rel hs args _ _ hargs
        obtain ⟨r', w', h1, h2, h3⟩ := copy_sound (ty := type) h hv1 hv2 hl
        exact ⟨m, r', w', .inl (by rw [run_builtin _ e1]; simp only [builtin, Sem.run_bind, h1, Result.andThen_ok]; rfl), .refl m, h2, h3⟩
      · exact absurd rfl hq
      · exact absurd rfl hq
      · cases hl
  | _ => first | exact absurd rfl hq | simp [aop] at hl

end Go.Lay

set_option linter.unusedVariables false
set_option linter.unusedSimpArgs false
namespace Go.Lay
open Go Go.RowKit

def enters (P : Program) (f : FuncId) : Bool :=
  match P.funcs[f]? with
  | some fn => fn.name != "runtime.NumGoroutine" && fn.body.isSome
  | none => false

def NCalls (P : Program) (f : FuncId) (args : List Value) (α : AH) (Q : Value → AH → Prop) : Prop :=
  enters P f = true ∧ ∀ (G : World) (m : AM) (w : World) (args' : List Value), Rel P G m α w → VRL m args args' →
    Calls P f args'.toArray w fun e w' => ∃ v', e = .returned v' ∧ ∃ m' v α', m.le m' ∧ Rel P G m' α' w' ∧ VR m' v v' ∧ Q v α'

theorem NCalls.mono {P : Program} {f : FuncId} {args : List Value} {α : AH} {Q Q' : Value → AH → Prop} (h : NCalls P f args α Q) (hq : ∀ v α', Q v α' → Q' v α') : NCalls P f args α Q' :=
  ⟨h.1, fun G m w args' h1 h2 => (h.2 G m w args' h1 h2).mono fun e w' ⟨v', he, m', v, α', a, b, c, d⟩ => ⟨v', he, m', v, α', a, b, c, hq v α' d⟩⟩

def putA (s : AS) (d : Option Nat) (v : Value) : AS := match d with | some d => upd s d v | none => s
@[simp] theorem putA_some (s : AS) (d : Nat) (v : Value) : putA s (some d) v = upd s d v := rfl
@[simp] theorem putA_none (s : AS) (v : Value) : putA s none v = s := rfl
def fitsA (N : Nat) : Option Nat → Prop
  | some d => d < N
  | none => True
theorem SR.putA {m : AM} {N : Nat} {s : AS} {a : Act} (h : SR m N s a) {d : Option Nat} (hd : fitsA N d) {v v' : Value} (hv : VR m v v') : SR m N (Go.Lay.putA s d v) (a.put d v') := by
  cases d with
  | none => exact h
  | some d => exact h.put hd hv

def yieldedA (ops : Array Oper) (s : AS) (j : Nat) : Option Bool :=
  match (ops[j]?).bind (·.dst) with
  | some t => match s t with
    | .bool b => some b
    | _ => none
  | none => none
def wantedA (ops : Array Oper) (o : Oper) (s : AS) : Bool :=
  match o.guard with
  | none => true
  | some (j, want) => yieldedA ops s j == some want

theorem yielded_eq {m : AM} {N : Nat} {s : AS} {a : Act} (h : SR m N s a) (ops : Array Oper) (j : Nat) (hj : ∀ t, (ops[j]?).bind (·.dst) = some t → s t ≠ junk) : yielded ops a.tmps j = yieldedA ops s j := by
  unfold yielded yieldedA
  cases hd : (ops[j]?).bind (·.dst) with
  | none => rfl
  | some t =>
    have hv := h.t t
    have hne := hj t hd
    simp only [Option.bind_some]
    cases ht : a.tmps[t]? with
    | none =>
      rw [ht] at hv
      simp only [Option.getD_none] at hv
      generalize s t = x at hv hne
      cases hv with
      | jk => exact absurd rfl hne
      | fl h => rfl
      | tuple => rfl
    | some v =>
      rw [ht] at hv
      simp only [Option.getD_some] at hv
      generalize s t = x at hv hne
      cases hv with
      | jk => exact absurd rfl hne
      | fl h => cases v <;> rfl
      | _ => rfl

/-- A call in an operation: where the walk goes on. -/
def contK (F : AS → AH → Prop) (s : AS) (d : Option Nat) : Value → AH → Prop := fun v α => F (putA s d v) α
def methodFuel (P : Program) : Nat := P.types.size + Made.depth
def NPure (P : Program) (o : Oper) (s : AS) (α : AH) (K : Value → AH → Prop) : Prop :=
  ∃ v, (∀ x ∈ o.op.operands, flatD (ev s x) = true) ∧ flatD v = true ∧ (∀ cs b, o.op ≠ .select cs b) ∧ (∀ w, (execOp (ev s) o).run P w = .ok (.value v) w) ∧ K v α
def NInvoke (P : Program) (r : Value) (name : String) (args : List Value) (α : AH) (K : Value → AH → Prop) : Prop :=
  ∃ t v g rv, r = .iface t v ∧ (∀ (G : World) (m : AM) (w : World) (v' : Value), Rel P G m α w → VR m v v' → ∃ rv', (method (methodFuel P) t v' name).run P w = .ok (g, rv') w ∧ VR m rv rv') ∧ NCalls P g (rv :: args) α K

def NOp (P : Program) (N : Nat) (o : Oper) (F : AS → AH → Prop) (s : AS) (α : AH) : Prop :=
  fitsA N o.dst ∧
  match o.op with
  | .call ⟨.value f, args, _⟩ => match ev s f with
    | .func (.func g) first captured => NCalls P g (first.toList ++ args.toList.map (ev s) ++ captured.toList) α (contK F s o.dst)
    | _ => False
  | .call ⟨.invoke r name, args, _⟩ => NInvoke P (ev s r) name (args.toList.map (ev s)) α (contK F s o.dst)
  | op => match aop P op s α with
    | some (v, α') => F (putA s o.dst v) α'
    | none => NPure P o s α (contK F s o.dst)

/-- which guards are asked of what is told -/
def guardOk (ops : Array Oper) (o : Oper) (s : AS) : Prop :=
  match o.guard with
  | none => True
  | some (j, _) => match (ops[j]?).bind (·.dst) with
    | some t => s t ≠ junk
    | none => True

def NOps (P : Program) (N : Nat) (ops : Array Oper) (K : AS → AH → Prop) : List Oper → AS → AH → Prop
  | [], s, α => K s α
  | o :: rest, s, α => guardOk ops o s ∧ if wantedA ops o s = true then NOp P N o (NOps P N ops K rest) s α else fitsA N o.dst ∧ NOps P N ops K rest (putA s o.dst undef) α

def calm : Exit → Bool
  | .panic _ | .outgrown => false
  | _ => true
def Lift (P : Program) (G : World) (m0 : AM) (N : Nat) (Q : Exit → AS → AH → Prop) : Exit → Act → World → Prop :=
  fun e a w => calm e = true ∧ ∃ m s α, m0.le m ∧ Rel P G m α w ∧ SR m N s a ∧ Q e s α

def NW (P : Program) (N : Nat) (c : Code) (Q : Exit → AS → AH → Prop) (s : AS) (α : AH) : Prop :=
  ∀ (G : World) (m0 m : AM) (a : Act) (w : World), m0.le m → Rel P G m α w → SR m N s a → c.wp P (Lift P G m0 N Q) a w

theorem callFunc_run {P : Program} {f : FuncId} (h : enters P f = true) (args : Array Value) (w : World) : (callFunc f args).run P w = .ok (.enter f args) w := by
  unfold enters at h
  split at h
  · rename_i fn hf
    simp only [Bool.and_eq_true] at h
    have hn : (fn.name == "runtime.NumGoroutine") = false := by simpa using h.1
    have hb : fn.body.isNone = false := by cases hb : fn.body <;> simp_all
    have hp : program.run P w = .ok P w := rfl
    simp only [callFunc, Sem.run_bind, hp, Result.andThen_ok, hf, hn, hb, Bool.false_eq_true, if_false]
    rfl
  · cases h

theorem callA_sound {P : Program} {G : World} {m m0 : AM} {α : AH} {w : World} (hm : m0.le m) (h : Rel P G m α w) {N : Nat} {s : AS} {a : Act} (hs : SR m N s a) {g : FuncId} {args args' : List Value} (ha : VRL m args args') {d : Option Nat} (hd : fitsA N d)
    {F : AS → AH → Prop} {Q : Exit → AS → AH → Prop} {next : Act → World → Prop} {o : Oper} (ho : o.dst = d) (hc : NCalls P g args α (contK F s d)) (hrun : (execOp a.eval o).run P w = .ok (.enter g args'.toArray) w)
    (hK : ∀ m' s' α' a' w', m0.le m' → Rel P G m' α' w' → SR m' N s' a' → F s' α' → next a' w') : o.wp P a w next (Lift P G m0 N Q) := by
  subst ho
  unfold Oper.wp
  rw [hrun]
  refine (hc.2 G m w args' h ha).mono fun e w' ⟨v', he, m', v, α', a1, a2, a3, a4⟩ => ?_
  subst he
  exact hK m' _ α' _ w' (hm.trans a1) a2 ((hs.mono a1).putA hd a3) a4

theorem list_ev {m : AM} {N : Nat} {s : AS} {a : Act} (hs : SR m N s a) (args : Array Operand) : VRL m (args.toList.map (ev s)) (args.map a.eval).toList := by
  refine ⟨by simp, fun i x hx => ?_⟩
  simp only [List.getElem?_map, Option.map_eq_some_iff] at hx
  obtain ⟨p, hp, rfl⟩ := hx
  exact ⟨a.eval p, by rw [Array.toList_map, List.getElem?_map, hp]; rfl, hs.ev p⟩

theorem nop_sound {P : Program} {G : World} {m m0 : AM} {α : AH} {w : World} (hm : m0.le m) (h : Rel P G m α w) {N : Nat} {s : AS} {a : Act} (hs : SR m N s a) {o : Oper} {F : AS → AH → Prop} {Q : Exit → AS → AH → Prop} {next : Act → World → Prop}
    (hn : NOp P N o F s α) (hK : ∀ m' s' α' a' w', m0.le m' → Rel P G m' α' w' → SR m' N s' a' → F s' α' → next a' w') : o.wp P a w next (Lift P G m0 N Q) := by
  obtain ⟨hfit, hn⟩ := hn
  have plain : (match aop P o.op s α with | some (v, α') => F (Go.Lay.putA s o.dst v) α' | none => NPure P o s α (contK F s o.dst)) → o.wp P a w next (Lift P G m0 N Q) := fun hn => by
    cases hop : aop P o.op s α with
    | some r =>
      obtain ⟨v, α'⟩ := r
      rw [hop] at hn
      obtain ⟨m', r', w', h1, h2, h3, h4⟩ := op_sound h hs hop
      unfold Oper.wp
      rcases h1 with h1 | ⟨h1, rfl⟩
      · rw [h1]; exact hK m' _ α' _ w' (hm.trans h2) h3 ((hs.mono h2).putA hfit h4) hn
      · rw [h1]; exact hK m' _ α' _ w' (hm.trans h2) h3 ((hs.mono h2).putA hfit h4) hn
    | none =>
      rw [hop] at hn
      obtain ⟨v, h1, h2, h3, h4, h5⟩ := hn
      have he : execOp a.eval o = execOp (ev s) o := execOp_congr o h3 fun x hx => (hs.ev x).eq_flatD (h1 x hx)
      unfold Oper.wp
      rw [he, h4 w]
      exact hK m _ α _ w hm h (hs.putA hfit (VR.flatD h2)) h5
  obtain ⟨dst, op, type, pos, after, guard⟩ := o
  cases op with
  | call c =>
    obtain ⟨callee, args, ts⟩ := c
    cases callee with
    | builtin b => exact plain hn
    | value f =>
      simp only at hn
      have hf := hs.ev f
      split at hn
      · rename_i g first captured he
        rw [he] at hf
        have : ∃ first' captured', a.eval f = .func (.func g) first' captured' ∧ VRL m first.toList first'.toList ∧ VRL m captured.toList captured'.toList := by
          generalize a.eval f = x at hf
          cases hf with
          | fl hf =>
            simp [Go.Lay.flat] at hf
            obtain ⟨rfl, rfl⟩ := hf
            exact ⟨#[], #[], rfl, VRL.nil m, VRL.nil m⟩
          | func h1 h2 h3 h4 => exact ⟨_, _, rfl, VRL.of_array h1 h2, VRL.of_array h3 h4⟩
        obtain ⟨first', captured', e1, v1, v2⟩ := this
        refine callA_sound hm h hs ((v1.append (list_ev hs args)).append v2) hfit rfl hn ?_ hK
        have : (first' ++ args.map a.eval ++ captured') = (first'.toList ++ (args.map a.eval).toList ++ captured'.toList).toArray := by apply Array.ext'; simp
        simp only [execOp, resolve, e1, Deferred.ofValue, Sem.run_bind, Sem.run_pure, Result.andThen_ok, invoke]
        rw [this]
        exact callFunc_run hn.1 _ w
      · exact hn.elim
    | invoke r name =>
      obtain ⟨t, v, g, rv, hr, hmeth, hc⟩ := hn
      have hrv := hs.ev r
      rw [hr] at hrv
      have : ∃ v', a.eval r = .iface t v' ∧ VR m v v' := by
        generalize a.eval r = x at hrv
        cases hrv with
        | fl hf => simp [Go.Lay.flat] at hf
        | iface h => exact ⟨_, rfl, h⟩
      obtain ⟨v', e1, hv⟩ := this
      obtain ⟨rv', h1, h2⟩ := hmeth G m w v' h hv
      refine callA_sound hm h hs (VRL.cons h2 (list_ev hs args)) hfit rfl hc ?_ hK
      have : (#[rv'] ++ args.map a.eval) = (rv' :: (args.map a.eval).toList).toArray := by apply Array.ext'; simp
      simp only [execOp, resolve, e1, Sem.run_bind, Sem.run_pure, Result.andThen_ok, invoke]
      have e2 : (#[Value.iface t v'] ++ args.map a.eval)[0]? = some (.iface t v') := by rw [Array.getElem?_append_left (by simp)]; rfl
      have e3 : (#[Value.iface t v'] ++ args.map a.eval).extract 1 (#[Value.iface t v'] ++ args.map a.eval).size = args.map a.eval := by
        apply Array.ext'
        simp
        rw [List.take_of_length_le (by simp)]
      have hp : program.run P w = .ok P w := rfl
      simp only [e2, e3, callMethod, Sem.run_bind, hp, Result.andThen_ok]
      unfold methodFuel at h1
      rw [h1]
      simp only [Result.andThen_ok]
      rw [this]
      exact callFunc_run hc.1 _ w
  | _ => exact plain hn

theorem nops_sound {P : Program} {G : World} {m0 : AM} {N : Nat} {ops : Array Oper} {K : AS → AH → Prop} {Q : Exit → AS → AH → Prop} (hK : ∀ s α, K s α → Q .normal s α) :
    ∀ (l : List Oper) (m : AM) (α : AH) (w : World) (s : AS) (a : Act), m0.le m → Rel P G m α w → SR m N s a → NOps P N ops K l s α → wpList P ops (Lift P G m0 N Q) l a w
  | [], m, α, w, s, a, hm, h, hs, hn => ⟨rfl, m, s, α, hm, h, hs, hK s α hn⟩
  | o :: rest, m, α, w, s, a, hm, h, hs, hn => by
    obtain ⟨hg, hn⟩ := hn
    have hw : Region.wanted o (yielded ops a.tmps) = wantedA ops o s := by
      unfold Region.wanted wantedA
      cases ho : o.guard with
      | none => rfl
      | some jw =>
        obtain ⟨j, want⟩ := jw
        simp only
        rw [yielded_eq hs ops j (fun t ht => by simp only [guardOk, ho, ht] at hg; exact hg)]
    unfold wpList
    rw [hw]
    split at hn
    · rename_i hc
      rw [if_pos hc]
      exact .inl (nop_sound hm h hs hn fun m' s' α' a' w' b1 b2 b3 b4 => nops_sound hK rest m' α' w' s' a' b1 b2 b3 b4)
    · rename_i hc
      rw [if_neg hc]
      exact nops_sound hK rest m α w _ _ hm h (hs.putA hn.1 (VR.undef m)) hn.2

/-! ### code -/
section
variable {P : Program} {N : Nat} {Q : Exit → AS → AH → Prop} {s : AS} {α : AH}

def nthen (K : AS → AH → Prop) (Q : Exit → AS → AH → Prop) : Exit → AS → AH → Prop
  | .normal, s, α => K s α
  | e, s, α => Q e s α
def nblock (id : Nat) (Q : Exit → AS → AH → Prop) : Exit → AS → AH → Prop
  | .exit id', s, α => if id' = id then Q .normal s α else Q (.exit id') s α
  | e, s, α => Q e s α

theorem nw_skip (h : Q .normal s α) : NW P N .skip Q s α := fun G m0 m a w h1 h2 h3 => wp_skip ⟨rfl, m, s, α, h1, h2, h3, h⟩
theorem nw_exit {id : Nat} (h : Q (.exit id) s α) : NW P N (.exit id) Q s α := fun G m0 m a w h1 h2 h3 => wp_exit ⟨rfl, m, s, α, h1, h2, h3, h⟩
theorem nw_ret (h : Q .ret s α) : NW P N .ret Q s α := fun G m0 m a w h1 h2 h3 => wp_ret ⟨rfl, m, s, α, h1, h2, h3, h⟩
theorem nw_seq {x y : Code} (h : NW P N x (nthen (NW P N y Q) Q) s α) : NW P N (.seq x y) Q s α := fun G m0 m a w h1 h2 h3 =>
  wp_seq (wp_mono (h G m0 m a w h1 h2 h3) fun e a' w' ⟨b0, m', s', α', b1, b2, b3, b4⟩ => by
    cases e <;> first | exact b4 G m0 m' a' w' b1 b2 b3 | exact ⟨b0, m', s', α', b1, b2, b3, b4⟩)
theorem nw_cond {c : Operand} {x y : Code} {t : Bool} (hc : ev s c = .bool t) (h1 : t = true → NW P N x Q s α) (h2 : t = false → NW P N y Q s α) : NW P N (.cond c x y) Q s α := fun G m0 m a w b1 b2 b3 => by
  have hv := b3.ev c
  rw [hc] at hv
  refine wp_cond_split (hv.eq_flat rfl) (fun ht => h1 ht G m0 m a w b1 b2 b3) (fun ht => h2 ht G m0 m a w b1 b2 b3)
theorem nw_block {id : Nat} {c : Code} (h : NW P N c (nblock id Q) s α) : NW P N (.block id c) Q s α := fun G m0 m a w h1 h2 h3 =>
  wp_block (wp_mono (h G m0 m a w h1 h2 h3) fun e a' w' ⟨b0, m', s', α', b1, b2, b3, b4⟩ => by
    cases e with
    | exit i =>
      simp only [nblock] at b4
      simp only [Exit.inBlock]
      split at b4
      · rename_i hi; rw [if_pos hi]; exact ⟨rfl, m', s', α', b1, b2, b3, b4⟩
      · rename_i hi; rw [if_neg hi]; exact ⟨b0, m', s', α', b1, b2, b3, b4⟩
    | _ => exact ⟨b0, m', s', α', b1, b2, b3, b4⟩)
/-- A loop: what holds at the head of each round, with a number that goes down. -/
theorem nw_loop {c : Code} (I : Nat → AS → AH → Prop) (n : Nat) (h0 : I n s α) (h : ∀ n s α, I n s α → NW P N c (nthen (fun s' α' => ∃ n', n' < n ∧ I n' s' α') Q) s α) : NW P N (.loop c) Q s α := fun G m0 m a w h1 h2 h3 =>
  wp_loop_ghost (fun n a w => ∃ m s α, m0.le m ∧ Rel P G m α w ∧ SR m N s a ∧ I n s α) n ⟨m, s, α, h1, h2, h3, h0⟩ fun n a w ⟨m, s, α, b1, b2, b3, b4⟩ =>
    wp_mono (h n s α b4 G m0 m a w b1 b2 b3) fun e a' w' ⟨c0, m', s', α', c1, c2, c3, c4⟩ => by
      cases e <;> first | (obtain ⟨n', c5, c6⟩ := c4; exact ⟨n', c5, m', s', α', c1, c2, c3, c6⟩) | exact ⟨c0, m', s', α', c1, c2, c3, c4⟩
theorem nw_region {id : Nat} {l : List Oper} (h : ∀ K : AS → AH → Prop, (∀ s α, Q .normal s α → K s α) → NOps P N l.toArray K l s α) : NW P N (.region id l.toArray false) Q s α := fun G m0 m a w h1 h2 h3 =>
  wp_region_lit (nops_sound (Q := Q) (fun _ _ h => h) l m α w s a h1 h2 h3 (h _ fun _ _ h => h))
theorem nw_mono {c : Code} {Q' : Exit → AS → AH → Prop} (h : NW P N c Q' s α) (hq : ∀ e s α, Q' e s α → Q e s α) : NW P N c Q s α := fun G m0 m a w h1 h2 h3 =>
  wp_mono (h G m0 m a w h1 h2 h3) fun e a' w' ⟨b0, m', s', α', b1, b2, b3, b4⟩ => ⟨b0, m', s', α', b1, b2, b3, hq _ _ _ b4⟩
end

/-! ### functions -/
def initS (args : List Value) : AS := fun i => (args[i]?).getD undef
def aresult (P : Program) (s : AS) (α : AH) : ResultVar → Option Value
  | .tmp t => some (s t)
  | .cell a t => aload P t (s a) α
def aresults (P : Program) (rs : List ResultVar) (s : AS) (α : AH) : Option Value :=
  match rs with
  | [r] => aresult P s α r
  | rs => (rs.mapM (aresult P s α)).map fun vs => .tuple vs.toArray
def bodyQ (P : Program) (rs : List ResultVar) (Q : Value → AH → Prop) : Exit → AS → AH → Prop
  | .normal, s, α | .ret, s, α => ∃ v, aresults P rs s α = some v ∧ Q v α
  | _, _, _ => False

theorem result_sound {P : Program} {G : World} {m : AM} {α : AH} {w : World} (h : Rel P G m α w) {N : Nat} {s : AS} {a : Act} (hs : SR m N s a) {r : ResultVar} {v : Value} (hl : aresult P s α r = some v) :
    ∃ v', ((match r with | .tmp t => pure (a.tmps.getD t undef) | .cell x t => do loadVar t (← asAddr (a.tmps.getD x undef))) : Sem Value).run P w = .ok v' w ∧ VR m v v' := by
  cases r with
  | tmp t =>
    simp only [aresult, Option.some.injEq] at hl
    subst hl
    exact ⟨_, rfl, by simpa using hs.t t⟩
  | cell x t =>
    simp only [aresult] at hl
    have hv : VR m (s x) (a.tmps.getD x undef) := by simpa using hs.t x
    obtain ⟨v', h1, h2⟩ := load_sound h hv hl
    refine ⟨v', ?_, h2⟩
    show ((do loadVar t (← asAddr (a.tmps.getD x undef))) : Sem Value).run P w = .ok v' w
    generalize a.tmps.getD x undef = p at h1
    cases p <;> simp only [Instr.loadAt, Instr.sureAddr] at h1 <;> first | (rename_i ad; cases ad <;> first | (simp at h1; done) | (simp only [asAddr]; exact h1)) | (simp at h1; done)

theorem mapM_sound {P : Program} {G : World} {m : AM} {α : AH} {w : World} (h : Rel P G m α w) {N : Nat} {s : AS} {a : Act} (hs : SR m N s a) : ∀ (rs : List ResultVar) (vs : List Value), rs.mapM (aresult P s α) = some vs →
    ∃ vs', (rs.mapM fun r => ((match r with | .tmp t => pure (a.tmps.getD t undef) | .cell x t => do loadVar t (← asAddr (a.tmps.getD x undef))) : Sem Value)).run P w = .ok vs' w ∧ VRL m vs vs'
  | [], vs, hl => by simp at hl; subst hl; exact ⟨[], rfl, VRL.nil m⟩
  | r :: rs, vs, hl => by
    rw [List.mapM_cons] at hl
    cases hr : aresult P s α r with
    | none => simp [hr] at hl
    | some v =>
      cases hrs : rs.mapM (aresult P s α) with
      | none => simp [hr, hrs] at hl
      | some us =>
        simp [hr, hrs] at hl
        subst hl
        obtain ⟨v', h1, h2⟩ := result_sound h hs hr
        obtain ⟨us', h3, h4⟩ := mapM_sound h hs rs us hrs
        refine ⟨v' :: us', ?_, VRL.cons h2 h4⟩
        rw [List.mapM_cons, Sem.run_bind, h1, Result.andThen_ok, Sem.run_bind, h3, Result.andThen_ok]
        rfl

theorem results_sound {P : Program} {G : World} {m : AM} {α : AH} {w : World} (h : Rel P G m α w) {N : Nat} {s : AS} {a : Act} (hs : SR m N s a) {fn : Func} {v : Value} (hl : aresults P fn.results.toList s α = some v) :
    ∃ v', (results fn a.tmps).run P w = .ok v' w ∧ VR m v v' := by
  unfold results
  rw [Array.mapM_eq_mapM_toList, Sem.run_bind]
  have hmap : ∀ (vs : List Value), (fn.results.toList.mapM fun r => ((match r with | .tmp t => pure (a.tmps.getD t undef) | .cell x t => do loadVar t (← asAddr (a.tmps.getD x undef))) : Sem Value)).run P w = .ok vs w →
      (List.toArray <$> fn.results.toList.mapM fun r => ((match r with | .tmp t => pure (a.tmps.getD t undef) | .cell x t => do loadVar t (← asAddr (a.tmps.getD x undef))) : Sem Value)).run P w = .ok vs.toArray w := fun vs hv => by
    rw [map_eq_pure_bind, Sem.run_bind, hv]; rfl
  unfold aresults at hl
  split at hl
  · rename_i r hr
    obtain ⟨v', h1, h2⟩ := result_sound h hs hl
    refine ⟨v', ?_, h2⟩
    refine (congrArg (fun r => Result.andThen r (fun (vs : Array Value) w' => Sem.run P (pure (if h : vs.size = 1 then vs[0] else .tuple vs)) w')) (hmap [v'] (by rw [hr, List.mapM_cons, Sem.run_bind, h1]; rfl))).trans ?_
    rfl
  · rename_i hne
    cases hvs : fn.results.toList.mapM (aresult P s α) with
    | none => simp [hvs] at hl
    | some vs =>
      simp [hvs] at hl
      subst hl
      obtain ⟨vs', h1, h2⟩ := mapM_sound h hs _ vs hvs
      refine ⟨.tuple vs'.toArray, ?_, h2.tuple⟩
      refine (congrArg (fun r => Result.andThen r (fun (vs : Array Value) w' => Sem.run P (pure (if h : vs.size = 1 then vs[0] else .tuple vs)) w')) (hmap vs' h1)).trans ?_
      have hlen : vs'.toArray.size ≠ 1 := fun h1 => by
        have hl' : vs.length = fn.results.toList.length := by
          clear hne h1 h2 hmap
          generalize fn.results.toList = rs at hvs
          induction rs generalizing vs with
          | nil => simp at hvs; subst hvs; rfl
          | cons r rs ih =>
            rw [List.mapM_cons] at hvs
            cases hr : aresult P s α r with
            | none => simp [hr] at hvs
            | some v =>
              cases hrs : rs.mapM (aresult P s α) with
              | none => simp [hr, hrs] at hvs
              | some us => simp [hr, hrs] at hvs; subst hvs; simp [ih us hrs]
        have hl2 := h2.1
        have hl1 : vs'.length = 1 := by simpa using h1
        have : fn.results.toList.length = 1 := by omega
        match hrs : fn.results.toList, this with
        | [r], _ => exact hne r hrs
      simp only [Result.andThen_ok]
      rw [dif_neg hlen]
      rfl

theorem ncalls_of {P : Program} {f : FuncId} {fn : Func} {c : Code} {args : List Value} {α : AH} {Q : Value → AH → Prop} (he : enters P f = true) (hf : P.funcs[f]? = some fn) (hb : fn.body = some c) (hn : args.length ≤ fn.ntmps)
    (h : NW P fn.ntmps c (bodyQ P fn.results.toList Q) (initS args) α) : NCalls P f args α Q := by
  refine ⟨he, fun G m w args' hr ha => calls_of_wp hf hb ?_⟩
  have hs : SR m fn.ntmps (initS args) { tmps := args'.toArray ++ Array.replicate (fn.ntmps - args'.toArray.size) undef, defers := [] } := by
    have := ha.1
    refine ⟨by simp; omega, rfl, fun i => ?_⟩
    simp only [initS]
    have hv := ha.at i
    by_cases hi : i < args'.length
    · rw [Array.getElem?_append_left (by simpa using hi)]; simpa using hv
    · rw [List.getElem?_eq_none (by omega)] at hv ⊢
      have : (args'.toArray ++ Array.replicate (fn.ntmps - args'.toArray.size) undef)[i]?.getD undef = undef := by
        rw [Array.getElem?_append_right (by simpa using hi)]
        simp only [Array.getElem?_replicate]
        split <;> rfl
      rw [this]; exact VR.undef m
  refine wp_mono (h G m m _ w (.refl m) hr hs) fun e a' w' ⟨b0, m', s', α', b1, b2, b3, b4⟩ => ?_
  cases e with
  | normal =>
    obtain ⟨v, h1, h2⟩ := b4
    obtain ⟨v', h3, h4⟩ := results_sound b2 b3 h1
    exact ⟨b3.defers, v', h3, v', rfl, m', v, α', b1, b2, h4, h2⟩
  | ret =>
    obtain ⟨v, h1, h2⟩ := b4
    obtain ⟨v', h3, h4⟩ := results_sound b2 b3 h1
    exact ⟨b3.defers, v', h3, v', rfl, m', v, α', b1, b2, h4, h2⟩
  | _ => exact b4.elim

end Go.Lay

set_option linter.unusedVariables false
set_option linter.unusedSimpArgs false
namespace Go.Lay
open Go Go.RowKit

def NAt (P : Program) (N : Nat) (ops : Array Oper) (i : Nat) (F : AS → AH → Prop) (s : AS) (α : AH) : Prop :=
  match ops[i]? with
  | some o => guardOk ops o s ∧ if wantedA ops o s = true then NOp P N o F s α else fitsA N o.dst ∧ F (putA s o.dst undef) α
  | none => False
/-- Whatever comes next, in each order. -/
def NAny (P : Program) (N : Nat) (ops : Array Oper) (K : AS → AH → Prop) : Nat → Array Bool → AS → AH → Prop
  | 0, l, s, α => Region.ready .any ops l = [] ∧ K s α
  | n + 1, l, s, α => (Region.ready .any ops l = [] → K s α) ∧ ∀ i ∈ Region.ready .any ops l, NAt P N ops i (NAny P N ops K n (l.setIfInBounds i true)) s α

theorem wanted_eq {m : AM} {N : Nat} {s : AS} {a : Act} (hs : SR m N s a) {ops : Array Oper} {o : Oper} (hg : guardOk ops o s) : Region.wanted o (yielded ops a.tmps) = wantedA ops o s := by
  unfold Region.wanted wantedA
  cases ho : o.guard with
  | none => rfl
  | some jw =>
    obtain ⟨j, want⟩ := jw
    simp only
    rw [yielded_eq hs ops j (fun t ht => by simp only [guardOk, ho, ht] at hg; exact hg)]

theorem nat_sound {P : Program} {G : World} {m m0 : AM} {α : AH} {w : World} (hm : m0.le m) (h : Rel P G m α w) {N : Nat} {s : AS} {a : Act} (hs : SR m N s a) {ops : Array Oper} {i : Nat} {F : AS → AH → Prop} {Q : Exit → AS → AH → Prop} {next : Act → World → Prop}
    (hn : NAt P N ops i F s α) (hK : ∀ m' s' α' a' w', m0.le m' → Rel P G m' α' w' → SR m' N s' a' → F s' α' → next a' w') : wpOp P ops (Lift P G m0 N Q) i next a w := by
  unfold NAt at hn
  unfold wpOp
  cases ho : ops[i]? with
  | none => rw [ho] at hn; exact hn.elim
  | some o =>
    rw [ho] at hn
    obtain ⟨hg, hn⟩ := hn
    simp only
    rw [wanted_eq hs hg]
    split at hn
    · rename_i hc
      rw [if_pos hc]
      exact .inl (nop_sound hm h hs hn hK)
    · rename_i hc
      rw [if_neg hc]
      exact hK m _ α _ w hm h (hs.putA hn.1 (VR.undef m)) hn.2

theorem nany_sound {P : Program} {G : World} {m0 : AM} {N : Nat} {ops : Array Oper} {K : AS → AH → Prop} {Q : Exit → AS → AH → Prop} (hK : ∀ s α, K s α → Q .normal s α) : ∀ (n : Nat) (l : Array Bool)
    (m : AM) (α : AH) (w : World) (s : AS) (a : Act), m0.le m → Rel P G m α w → SR m N s a → NAny P N ops K n l s α → wpAny P .any ops (Lift P G m0 N Q) n l a w
  | 0, l, m, α, w, s, a, hm, h, hs, hn => ⟨hn.1, rfl, m, s, α, hm, h, hs, hK s α hn.2⟩
  | n + 1, l, m, α, w, s, a, hm, h, hs, hn => ⟨fun h0 => ⟨rfl, m, s, α, hm, h, hs, hK s α (hn.1 h0)⟩, fun i hi =>
      nat_sound hm h hs (hn.2 i hi) fun m' s' α' a' w' b1 b2 b3 b4 => nany_sound hK n _ m' α' w' s' a' b1 b2 b3 b4⟩

/-! ### which may be looked at first -/
/-- looks at no memory -/
def memless : Op → Bool
  | .slice .. => false
  | op => quietA op
/-- changes no memory -/
def calmA : Op → Bool
  | .load .. => true
  | op => quietA op
/-! ### what an operation looks at -/
theorem aop_congr {P : Program} {op : Op} {s s' : AS} {α : AH} (h : ∀ x ∈ op.operands, ev s x = ev s' x) : aop P op s α = aop P op s' α := by
  have pairs : ∀ ps : Array (Nat × Operand), (∀ x ∈ ps.toList.map (·.2), ev s x = ev s' x) → (ps.toList.map fun p => (p.1, ev s p.2)) = (ps.toList.map fun p => (p.1, ev s' p.2)) := fun ps hp =>
    List.map_congr_left fun p hm => by rw [hp p.2 (List.mem_map.2 ⟨p, hm, rfl⟩)]
  cases op <;> simp only [Op.operands] at h
  case build t ps => simp only [aop]; rw [pairs ps fun x hx => h x (by simpa using hx)]
  case buildSlice t n ps => simp only [aop]; rw [pairs ps fun x hx => h x (by simpa using hx)]
  case makeFunc fn f c =>
    simp only [aop]
    rw [Array.map_congr_left (xs := f) fun x hx => h x (by simp [hx]), Array.map_congr_left (xs := c) fun x hx => h x (by simp [hx])]
  case slice t x lo hi mx => cases lo <;> cases hi <;> cases mx <;> simp_all [aop]
  case call c =>
    obtain ⟨callee, args, ts⟩ := c
    cases callee with
    | builtin b =>
      simp only [aop]
      rw [List.map_congr_left (l := args.toList) fun x hx => h x (by simp [Call.operands]; simpa using hx)]
    | value f => rfl
    | invoke r n => rfl
  all_goals (first | rfl | (simp_all [aop]; done))

theorem nop_congr {P : Program} {N : Nat} {o : Oper} (hs : ∀ cs b, o.op ≠ .select cs b) {F F' : AS → AH → Prop} {s s' : AS} {α : AH} (h : ∀ x ∈ o.op.operands, ev s x = ev s' x) (hn : NOp P N o F s α)
    (hF : ∀ v α', (aop P o.op s α = some (v, α') ∨ α' = α ∨ calmA o.op = false) → F (putA s o.dst v) α' → F' (putA s' o.dst v) α') : NOp P N o F' s' α := by
  obtain ⟨hfit, hn⟩ := hn
  refine ⟨hfit, ?_⟩
  have plain : (match aop P o.op s α with | some (v, α') => F (putA s o.dst v) α' | none => NPure P o s α (contK F s o.dst)) → (match aop P o.op s' α with | some (v, α') => F' (putA s' o.dst v) α' | none => NPure P o s' α (contK F' s' o.dst)) := fun hn => by
    rw [← aop_congr h]
    cases hop : aop P o.op s α with
    | some r =>
      obtain ⟨v, α'⟩ := r
      rw [hop] at hn
      exact hF v α' (.inl hop) hn
    | none =>
      rw [hop] at hn
      obtain ⟨v, h1, h2, h3, h4, h5⟩ := hn
      exact ⟨v, fun x hx => by rw [← h x hx]; exact h1 x hx, h2, h3, fun w => by rw [← execOp_congr o h3 h]; exact h4 w, hF v α (.inr (.inl rfl)) h5⟩
  obtain ⟨dst, op, type, pos, after, guard⟩ := o
  cases op with
  | call c =>
    obtain ⟨callee, args, ts⟩ := c
    cases callee with
    | builtin b => exact plain hn
    | value f =>
      simp only at hn ⊢
      have hf : ev s f = ev s' f := h f (by simp [Op.operands, Call.operands])
      have ha : args.toList.map (ev s) = args.toList.map (ev s') := List.map_congr_left fun x hx => h x (by simp [Op.operands, Call.operands]; exact .inr (by simpa using hx))
      rw [← hf, ← ha]
      split at hn
      · exact hn.mono fun v α' hk => hF v α' (.inr (.inr rfl)) hk
      · exact hn.elim
    | invoke r n =>
      simp only at hn ⊢
      have hf : ev s r = ev s' r := h r (by simp [Op.operands, Call.operands])
      have ha : args.toList.map (ev s) = args.toList.map (ev s') := List.map_congr_left fun x hx => h x (by simp [Op.operands, Call.operands]; exact .inr (by simpa using hx))
      rw [← hf, ← ha]
      obtain ⟨t, v, g, rv, h1, h2, h3⟩ := hn
      exact ⟨t, v, g, rv, h1, h2, h3.mono fun v α' hk => hF v α' (.inr (.inr rfl)) hk⟩
  | _ => exact plain hn

theorem ev_putA {s : AS} {d : Option Nat} {v : Value} {x : Operand} (h : ∀ e, d = some e → x ≠ .tmp e) : ev (putA s d v) x = ev s x := by
  cases d with
  | none => rfl
  | some e =>
    cases x with
    | tmp t => simp only [ev, putA, upd]; rw [if_neg fun he => h e rfl (by rw [he])]
    | _ => rfl
theorem looks_ev {ops : Array Oper} {o : Oper} {s : AS} {d : Option Nat} {v : Value} (h : ∀ e, d = some e → e ∉ o.looksAt ops) : ∀ x ∈ o.op.operands, ev (putA s d v) x = ev s x := fun x hx =>
  ev_putA fun e he hxe => h e he (by subst hxe; exact List.mem_append_left _ (List.mem_filterMap.2 ⟨.tmp e, by simpa using hx, rfl⟩))
theorem looks_guard {ops : Array Oper} {o : Oper} {s : AS} {d : Option Nat} {v : Value} (h : ∀ e, d = some e → e ∉ o.looksAt ops) : (guardOk ops o (putA s d v) ↔ guardOk ops o s) ∧ wantedA ops o (putA s d v) = wantedA ops o s := by
  cases d with
  | none => exact ⟨Iff.rfl, rfl⟩
  | some e =>
    have he := h e rfl
    unfold guardOk wantedA yieldedA
    cases hg : o.guard with
    | none => exact ⟨Iff.rfl, rfl⟩
    | some jw =>
      obtain ⟨j, want⟩ := jw
      cases ht : (ops[j]?).bind (·.dst) with
      | none => exact ⟨by simp [ht], by simp [ht]⟩
      | some t =>
        have hne : t ≠ e := fun hc => he (by subst hc; simp [Oper.looksAt, hg, ht])
        have : putA s (some e) v t = s t := if_neg hne
        constructor <;> simp only [ht, this]
theorem putA_comm {s : AS} {d e : Option Nat} {u v : Value} (h : ∀ x, d = some x → e ≠ some x) : putA (putA s d u) e v = putA (putA s e v) d u := by
  cases d with
  | none => rfl
  | some d =>
    cases e with
    | none => rfl
    | some e =>
      have hne : d ≠ e := fun hc => h d rfl (by rw [hc])
      funext i
      simp only [putA, upd]
      by_cases h1 : i = e
      · subst h1; rw [if_pos rfl, if_neg (Ne.symm hne), if_pos rfl]
      · rw [if_neg h1, if_neg h1]

def aft (o : Oper) : List Nat := (o.after.toList.filter (Region.binds .any)).map (·.on)
def dep (ops : Array Oper) : Nat → Nat → Nat → Bool
  | 0, _, _ => false
  | n + 1, j, i => match ops[j]? with
    | some o => (aft o).contains i || (aft o).any fun e => dep ops n e i
    | none => false
def Closed (ops : Array Oper) (l : Array Bool) : Prop := ∀ k o, ops[k]? = some o → l.getD k false = true → ∀ e ∈ aft o, l.getD e false = true

theorem mem_aft {o : Oper} {i : Nat} : i ∈ aft o ↔ ∃ e ∈ o.after, Region.binds .any e = true ∧ e.on = i := by
  unfold aft
  simp only [List.mem_map, List.mem_filter, Array.mem_toList_iff]
  exact ⟨fun ⟨e, h1, h2⟩ => ⟨e, h1.1, h1.2, h2⟩, fun ⟨e, h1, h2, h3⟩ => ⟨e, ⟨h1, h2⟩, h3⟩⟩
theorem ready_aft {ops : Array Oper} {l : Array Bool} {j : Nat} (h : j ∈ Region.ready .any ops l) : l.getD j true = false ∧ ∃ o, ops[j]? = some o ∧ ∀ e ∈ aft o, l.getD e false = true := by
  obtain ⟨h1, o, h2, h3⟩ := mem_ready.1 h
  refine ⟨h1, o, h2, fun e he => ?_⟩
  obtain ⟨x, hx1, hx2, rfl⟩ := mem_aft.1 he
  exact h3 x hx1 hx2
theorem listed_nodep {ops : Array Oper} {l : Array Bool} (hc : Closed ops l) {i : Nat} (hi : l.getD i false = false) : ∀ (n k : Nat), l.getD k false = true → dep ops n k i = false
  | 0, _, _ => rfl
  | n + 1, k, hk => by
    unfold dep
    cases ho : ops[k]? with
    | none => rfl
    | some o =>
      have h1 := hc k o ho hk
      simp only [Bool.or_eq_false_iff, List.any_eq_false]
      refine ⟨?_, fun e he => by rw [listed_nodep hc hi n e (h1 e he)]; simp⟩
      rw [Bool.eq_false_iff]
      intro hcont
      have := h1 i (by simpa using hcont)
      rw [hi] at this
      cases this
theorem ready_nodep {ops : Array Oper} {l : Array Bool} (hc : Closed ops l) {i j : Nat} (hi : l.getD i false = false) (hj : j ∈ Region.ready .any ops l) (n : Nat) : dep ops n j i = false := by
  cases n with
  | zero => rfl
  | succ n =>
    obtain ⟨_, o, ho, h1⟩ := ready_aft hj
    unfold dep
    rw [ho]
    simp only [Bool.or_eq_false_iff, List.any_eq_false]
    refine ⟨?_, fun e he => by rw [listed_nodep hc hi n e (h1 e he)]; simp⟩
    rw [Bool.eq_false_iff]
    intro hcont
    have := h1 i (by simpa using hcont)
    rw [hi] at this
    cases this
theorem unlisted_false {l : Array Bool} {i : Nat} (h : l.getD i true = false) : l.getD i false = false := by
  rcases Nat.lt_or_ge i l.size with h' | h'
  · simpa [h'] using h
  · simp [Array.getElem?_eq_none h'] at h
theorem Closed.set {ops : Array Oper} {l : Array Bool} (hc : Closed ops l) {j : Nat} (hj : j ∈ Region.ready .any ops l) : Closed ops (l.setIfInBounds j true) := fun k o ho hk e he => by
  by_cases hkj : k = j
  · subst hkj
    obtain ⟨_, o', ho', h1⟩ := ready_aft hj
    rw [ho] at ho'
    injection ho' with ho'
    subst ho'
    exact getD_set_true (h1 e he)
  · rw [getD_set_ne false (Ne.symm hkj)] at hk
    exact getD_set_true (hc k o ho hk e he)

/-- What operation i comes to here, memory as it was. -/
def ValOk (P : Program) (N : Nat) (ops : Array Oper) (o : Oper) (s : AS) (α : AH) (v : Value) : Prop :=
  guardOk ops o s ∧ fitsA N o.dst ∧ ((wantedA ops o s = true ∧ aop P o.op s α = some (v, α)) ∨ (wantedA ops o s = false ∧ v = undef))

theorem calm_same {P : Program} {op : Op} {s : AS} {α α' : AH} {v : Value} (hc : calmA op = true) (h : aop P op s α = some (v, α')) : α' = α := by
  cases op <;> simp only [calmA, quietA, Bool.false_eq_true] at hc <;> first
    | (simp only [aop, Option.some.injEq, Prod.mk.injEq] at h; exact h.2.symm)
    | exact (keep_inv h).2
    | skip
  rename_i c
  obtain ⟨callee, args, ts⟩ := c
  cases callee with
  | value f => simp [aop] at h
  | invoke r n => simp [aop] at h
  | builtin b =>
    simp only [aop] at h
    unfold abuiltin at h
    split at h
    · rename_i x hx
      cases hl : alen P ts x with
      | none => simp [hl] at h
      | some u => simp [hl] at h; exact h.2.symm
    · split at h
      · split at h
        · simp at h; exact h.2.symm
        · cases h
      · cases h
    · simp [quietA] at hc
    · simp [quietA] at hc
    · simp at h; exact h.2.symm
    · simp at h; exact h.2.symm
    · cases h

theorem memless_any {P : Program} {op : Op} {s : AS} {α β : AH} {v : Value} (hc : memless op = true) (h : aop P op s α = some (v, α)) : aop P op s β = some (v, β) := by
  cases op <;> simp only [memless, quietA, Bool.false_eq_true] at hc <;> first
    | (simp only [aop, Option.some.injEq, Prod.mk.injEq] at h ⊢; exact ⟨h.1, trivial⟩)
    | (have hk := (keep_inv h).1; simp only [aop]; rw [hk]; rfl)
    | skip
  rename_i c
  obtain ⟨callee, args, ts⟩ := c
  cases callee with
  | value f => simp [aop] at h
  | invoke r n => simp [aop] at h
  | builtin b =>
    simp only [aop] at h ⊢
    unfold abuiltin at h ⊢
    split at h
    · rename_i x hx
      cases hl : alen P ts x with
      | none => simp [hl] at h
      | some u => simp [hl] at h ⊢; exact h
    · simp [quietA] at hc
    · simp [quietA] at hc
    · simp [quietA] at hc
    · simp at h ⊢; exact h
    · simp at h ⊢; exact h
    · cases h

def Frees (ops : Array Oper) (oi : Oper) (i : Nat) (l : Array Bool) : Prop := ∀ j oj, ops[j]? = some oj → j ≠ i → l.getD j true = false → dep ops ops.size j i = false → oi.apart ops oj = true ∧ (calmA oj.op = true ∨ memless oi.op = true)

theorem nat_comm {P : Program} {N : Nat} {ops : Array Oper} {j : Nat} {oi oj : Oper} (hj : ops[j]? = some oj) (hsel : ∀ cs b, oj.op ≠ .select cs b) (hap : oi.apart ops oj = true) (hcm : calmA oj.op = true ∨ memless oi.op = true) {v : Value} {s : AS} {α : AH}
    {F F' : AS → AH → Prop} (hv : ValOk P N ops oi s α v) (hn : NAt P N ops j F (putA s oi.dst v) α) (hF : ∀ s' α', ValOk P N ops oi s' α' v → F (putA s' oi.dst v) α' → F' s' α') : NAt P N ops j F' s α := by
  obtain ⟨h1, h2, h3⟩ := Oper.apart_spec hap
  unfold NAt at hn ⊢
  rw [hj] at hn ⊢
  obtain ⟨hg, hn⟩ := hn
  have hl := looks_guard (ops := ops) (o := oj) (s := s) (v := v) h1
  have keepV : ∀ u α', (calmA oj.op = true → α' = α) → ValOk P N ops oi (putA s oj.dst u) α' v := fun u α' hα => by
    obtain ⟨g1, g2, g3⟩ := hv
    have hli := looks_guard (ops := ops) (o := oi) (s := s) (v := u) h3
    refine ⟨hli.1.2 g1, g2, ?_⟩
    rw [hli.2]
    rcases g3 with ⟨w1, w2⟩ | w
    · refine .inl ⟨w1, ?_⟩
      rw [aop_congr (looks_ev h3)]
      rcases hcm with hc | hm
      · rw [hα hc]; exact w2
      · exact memless_any hm w2
    · exact .inr w
  refine ⟨hl.1.1 hg, ?_⟩
  rw [hl.2] at hn
  split at hn
  · rename_i hw
    rw [if_pos hw]
    refine nop_congr hsel (looks_ev h1) hn fun u α' hk hf => ?_
    have hα : calmA oj.op = true → α' = α := fun hc => by
      rcases hk with hk | hk
      · exact calm_same hc hk
      · rcases hk with hk | hk
        · exact hk
        · rw [hk] at hc; cases hc
    refine hF _ α' (keepV u α' hα) ?_
    rw [← putA_comm h2]
    exact hf
  · rename_i hw
    rw [if_neg hw]
    refine ⟨hn.1, hF _ α (keepV undef α fun _ => rfl) ?_⟩
    rw [← putA_comm h2]
    exact hn.2
theorem nany_first {P : Program} {N : Nat} {ops : Array Oper} {K : AS → AH → Prop} (hsel : Region.noSelect ops = true) {i : Nat} {oi : Oper} (hi : ops[i]? = some oi) {v : Value} : ∀ (n : Nat) (l : Array Bool) (s : AS) (α : AH), Closed ops l → Frees ops oi i l →
    i ∈ Region.ready .any ops l → ValOk P N ops oi s α v → NAny P N ops K n (l.setIfInBounds i true) (putA s oi.dst v) α → NAny P N ops K (n + 1) l s α := by
  have self : ∀ (n : Nat) (l : Array Bool) (s : AS) (α : AH), ValOk P N ops oi s α v → NAny P N ops K n (l.setIfInBounds i true) (putA s oi.dst v) α → NAt P N ops i (NAny P N ops K n (l.setIfInBounds i true)) s α := fun n l s α hv H => by
    obtain ⟨g1, g2, g3⟩ := hv
    unfold NAt
    rw [hi]
    refine ⟨g1, ?_⟩
    rcases g3 with ⟨w1, w2⟩ | ⟨w1, w2⟩
    · rw [if_pos w1]
      refine ⟨g2, ?_⟩
      obtain ⟨dst, op, type, pos, after, guard⟩ := oi
      cases op with
      | call c =>
        obtain ⟨callee, args, ts⟩ := c
        cases callee with
        | builtin b => simp only at w2 ⊢; rw [w2]; exact H
        | value f => simp [aop] at w2
        | invoke r n => simp [aop] at w2
      | _ => simp only at w2 ⊢; rw [w2]; exact H
    · rw [if_neg (by rw [w1]; simp)]
      subst w2
      exact ⟨g2, H⟩
  intro n
  induction n with
  | zero =>
    intro l s α hc hf hr hv H
    refine ⟨fun h => (by rw [h] at hr; cases hr), fun j hj => ?_⟩
    by_cases hji : j = i
    · subst hji; exact self 0 l s α hv H
    · have := ready_mono hj hji
      rw [H.1] at this
      cases this
  | succ n ih =>
    intro l s α hc hf hr hv H
    refine ⟨fun h => (by rw [h] at hr; cases hr), fun j hj => ?_⟩
    by_cases hji : j = i
    · subst hji; exact self _ l s α hv H
    · have h1 := H.2 j (ready_mono hj hji)
      obtain ⟨hjun, oj, hoj, hall⟩ := ready_aft hj
      have hiun := (ready_aft hr).1
      have hnd := ready_nodep hc (unlisted_false hiun) hj ops.size
      obtain ⟨hap, hcm⟩ := hf j oj hoj hji hjun hnd
      refine nat_comm hoj (fun cs b => Region.noSelect_spec hsel j oj cs b hoj) hap hcm hv h1 fun s' α' hv' H' => ?_
      refine ih (l.setIfInBounds j true) s' α' (hc.set hj) ?_ (ready_mono hr (Ne.symm hji)) hv' ?_
      · intro k ok hk hki hun hd
        refine hf k ok hk hki ?_ hd
        by_cases hjk : j = k
        · subst hjk; exact hjun
        · rw [getD_set_ne true hjk] at hun; exact hun
      · rw [Array.setIfInBounds_comm _ _ hji]; exact H'

/- In what order operations are looked at: one that others can't disturb first ('take'); else all that may come next, one by one ('pick'). -/
mutual
inductive Tr where
  | done
  | take (i : Nat) (t : Tr)
  | pick (c : Ch)
inductive Ch where
  | nil
  | cons (i : Nat) (t : Tr) (c : Ch)
end
def idx : Ch → List Nat
  | .nil => []
  | .cons i _ c => i :: idx c
def closedB (ops : Array Oper) (l : Array Bool) : Bool := (List.range ops.size).all fun k => !(l.getD k false) || match ops[k]? with | some o => (aft o).all fun e => l.getD e false | none => true
def freeB (ops : Array Oper) (l : Array Bool) (i : Nat) : Bool :=
  match ops[i]? with
  | some oi => calmA oi.op && (List.range ops.size).all fun j => j == i || l.getD j true || dep ops ops.size j i || match ops[j]? with | some oj => oi.apart ops oj && (calmA oj.op || memless oi.op) | none => true
  | none => false
mutual
def trOk (ops : Array Oper) : Tr → Nat → Array Bool → Bool
  | .done, _, l => (Region.ready .any ops l).isEmpty
  | .take i t, n + 1, l => closedB ops l && freeB ops l i && (Region.ready .any ops l).contains i && trOk ops t n (l.setIfInBounds i true)
  | .pick c, n + 1, l => ((Region.ready .any ops l).all fun j => (idx c).contains j) && !(Region.ready .any ops l).isEmpty && chOk ops c n l
  | _, 0, _ => false
def chOk (ops : Array Oper) : Ch → Nat → Array Bool → Bool
  | .nil, _, _ => true
  | .cons i t c, n, l => trOk ops t n (l.setIfInBounds i true) && chOk ops c n l
end
theorem closedB_spec {ops : Array Oper} {l : Array Bool} (h : closedB ops l = true) : Closed ops l := fun k o ho hk e he => by
  simp only [closedB, List.all_eq_true, List.mem_range] at h
  have h1 := h k (Array.getElem?_eq_some_iff.1 ho).1
  rw [hk, ho] at h1
  simp only [Bool.not_true, Bool.false_or, List.all_eq_true] at h1
  exact h1 e he
theorem freeB_spec {ops : Array Oper} {l : Array Bool} {i : Nat} {oi : Oper} (hi : ops[i]? = some oi) (h : freeB ops l i = true) : calmA oi.op = true ∧ Frees ops oi i l := by
  simp only [freeB, hi, Bool.and_eq_true, List.all_eq_true, List.mem_range] at h
  refine ⟨h.1, fun j oj hj hne hun hnd => ?_⟩
  have h1 := h.2 j (Array.getElem?_eq_some_iff.1 hj).1
  rw [hj] at h1
  simp only [Bool.or_eq_true, beq_iff_eq, hne, false_or, hun, hnd, Bool.false_eq_true, Bool.and_eq_true] at h1
  exact h1

/-- What operation i comes to, looked at first. -/
def NTake (P : Program) (N : Nat) (ops : Array Oper) (i : Nat) (F : AS → AH → Prop) (s : AS) (α : AH) : Prop :=
  match ops[i]? with
  | some o => guardOk ops o s ∧ fitsA N o.dst ∧ if wantedA ops o s = true then (match aop P o.op s α with | some (v, _) => F (putA s o.dst v) α | none => False) else F (putA s o.dst undef) α
  | none => False
mutual
def NTr (P : Program) (N : Nat) (ops : Array Oper) (K : AS → AH → Prop) : Tr → AS → AH → Prop
  | .done, s, α => K s α
  | .take i t, s, α => NTake P N ops i (NTr P N ops K t) s α
  | .pick c, s, α => NCh P N ops K c s α
def NCh (P : Program) (N : Nat) (ops : Array Oper) (K : AS → AH → Prop) : Ch → AS → AH → Prop
  | .nil, _, _ => True
  | .cons i t c, s, α => NAt P N ops i (NTr P N ops K t) s α ∧ NCh P N ops K c s α
end

theorem nat_mono {P : Program} {N : Nat} {ops : Array Oper} (hsel : Region.noSelect ops = true) {i : Nat} {F F' : AS → AH → Prop} {s : AS} {α : AH} (h : NAt P N ops i F s α) (hF : ∀ s α, F s α → F' s α) : NAt P N ops i F' s α := by
  unfold NAt at h ⊢
  cases ho : ops[i]? with
  | none => rw [ho] at h; exact h
  | some o =>
    rw [ho] at h
    obtain ⟨hg, h⟩ := h
    refine ⟨hg, ?_⟩
    split at h
    · rename_i hw; rw [if_pos hw]; exact nop_congr (fun cs b => Region.noSelect_spec hsel i o cs b ho) (fun _ _ => rfl) h fun v α' _ hk => hF _ _ hk
    · rename_i hw; rw [if_neg hw]; exact ⟨h.1, hF _ _ h.2⟩

theorem nch_mem {P : Program} {N : Nat} {ops : Array Oper} {K : AS → AH → Prop} {s : AS} {α : AH} {n : Nat} {l : Array Bool} : ∀ (c : Ch), chOk ops c n l = true → NCh P N ops K c s α → ∀ i ∈ idx c, ∃ t : Tr, SizeOf.sizeOf t < SizeOf.sizeOf c ∧ trOk ops t n (l.setIfInBounds i true) = true ∧ NAt P N ops i (NTr P N ops K t) s α
  | .nil, _, _, i, hi => by simp [idx] at hi
  | .cons j t c, hok, hn, i, hi => by
    simp only [chOk, Bool.and_eq_true] at hok
    simp only [NCh] at hn
    simp only [idx, List.mem_cons] at hi
    rcases hi with rfl | hi
    · exact ⟨t, by simp; omega, hok.1, hn.1⟩
    · obtain ⟨t', h1, h2⟩ := nch_mem c hok.2 hn.2 i hi
      exact ⟨t', by simp; omega, h2⟩

theorem nany_done {P : Program} {N : Nat} {ops : Array Oper} {K : AS → AH → Prop} {l : Array Bool} {s : AS} {α : AH} (hr : Region.ready .any ops l = []) (h : K s α) : ∀ n, NAny P N ops K n l s α
  | 0 => ⟨hr, h⟩
  | _ + 1 => ⟨fun _ => h, by rw [hr]; simp⟩

theorem ntr_sound {P : Program} {N : Nat} {ops : Array Oper} {K : AS → AH → Prop} (hsel : Region.noSelect ops = true) (t : Tr) (n : Nat) (l : Array Bool) (s : AS) (α : AH) (hok : trOk ops t n l = true) (hn : NTr P N ops K t s α) : NAny P N ops K n l s α := by
  match t, n, hok, hn with
  | .done, n, hok, hn =>
    simp only [trOk, List.isEmpty_iff] at hok
    simp only [NTr] at hn
    exact nany_done hok hn n
  | .take i t, n + 1, hok, hn =>
    simp only [trOk, Bool.and_eq_true] at hok
    obtain ⟨⟨⟨h1, h2⟩, h3⟩, h4⟩ := hok
    simp only [NTr, NTake] at hn
    cases ho : ops[i]? with
    | none => rw [ho] at hn; exact hn.elim
    | some o =>
      rw [ho] at hn
      obtain ⟨g1, g2, g3⟩ := hn
      obtain ⟨hcalm, hfree⟩ := freeB_spec ho h2
      split at g3
      · rename_i hw
        cases hop : aop P o.op s α with
        | none => rw [hop] at g3; exact g3.elim
        | some r =>
          obtain ⟨v, α'⟩ := r
          rw [hop] at g3
          obtain rfl := calm_same hcalm hop
          exact nany_first hsel ho n l s α' (closedB_spec h1) hfree (by simpa using h3) ⟨g1, g2, .inl ⟨hw, hop⟩⟩ (ntr_sound hsel t n _ _ _ h4 g3)
      · rename_i hw
        exact nany_first hsel ho n l s α (closedB_spec h1) hfree (by simpa using h3) ⟨g1, g2, .inr ⟨by simpa using hw, rfl⟩⟩ (ntr_sound hsel t n _ _ _ h4 g3)
  | .pick c, n + 1, hok, hn =>
    simp only [trOk, Bool.and_eq_true, List.all_eq_true, List.contains_iff_mem] at hok
    obtain ⟨⟨h1, h2⟩, h3⟩ := hok
    simp only [NTr] at hn
    refine ⟨fun h0 => by rw [h0] at h2; simp at h2, fun i hi => ?_⟩
    obtain ⟨t, ht, ht1, ht2⟩ := nch_mem c h3 hn i (h1 i hi)
    exact nat_mono hsel ht2 fun s' α' hh => ntr_sound hsel t n _ s' α' ht1 hh
termination_by SizeOf.sizeOf t

def trCheck (ops : Array Oper) (t : Tr) : Bool := Region.noSelect ops && trOk ops t ops.size (Array.replicate ops.size false)

theorem nw_draw {P : Program} {N : Nat} {Q : Exit → AS → AH → Prop} {s : AS} {α : AH} {id : Nat} {l : List Oper} (t : Tr) (hm : P.follows .mixedOrders = true) (hok : trCheck l.toArray t = true)
    (h : ∀ K : AS → AH → Prop, (∀ s α, Q .normal s α → K s α) → NTr P N l.toArray K t s α) : NW P N (.region id l.toArray true) Q s α := fun G m0 m a w h1 h2 h3 => by
  simp only [trCheck, Bool.and_eq_true] at hok
  exact wp_region_any hm (nany_sound (Q := Q) (fun _ _ h => h) _ _ m α _ s a h1 (h2.drew _) h3 (ntr_sound hok.1 t _ _ s α hok.2 (h _ fun _ _ h => h)))

/-! ### a tree in two pieces -/
mutual
def graft (u : Tr) : Tr → Tr
  | .done => u
  | .take i t => .take i (graft u t)
  | .pick c => .pick (graftC u c)
def graftC (u : Tr) : Ch → Ch
  | .nil => .nil
  | .cons i t c => .cons i (graft u t) (graftC u c)
end
mutual
theorem ntr_graft {P : Program} {N : Nat} {ops : Array Oper} {K J : AS → AH → Prop} (hsel : Region.noSelect ops = true) {u : Tr} (hu : ∀ s α, J s α → NTr P N ops K u s α) : ∀ (t : Tr) (s : AS) (α : AH), NTr P N ops J t s α → NTr P N ops K (graft u t) s α
  | .done, s, α, h => by simp only [NTr] at h; simp only [graft]; exact hu s α h
  | .take i t, s, α, h => by
    simp only [NTr, graft, NTake] at h ⊢
    cases ho : ops[i]? with
    | none => rw [ho] at h; exact h
    | some o =>
      rw [ho] at h
      refine ⟨h.1, h.2.1, ?_⟩
      have h3 := h.2.2
      split at h3
      · rename_i hw
        rw [if_pos hw]
        cases hop : aop P o.op s α with
        | none => rw [hop] at h3; exact h3
        | some r => rw [hop] at h3; exact ntr_graft hsel hu t _ _ h3
      · rename_i hw
        rw [if_neg hw]
        exact ntr_graft hsel hu t _ _ h3
  | .pick c, s, α, h => by simp only [NTr, graft] at h ⊢; exact nch_graft hsel hu c s α h
theorem nch_graft {P : Program} {N : Nat} {ops : Array Oper} {K J : AS → AH → Prop} (hsel : Region.noSelect ops = true) {u : Tr} (hu : ∀ s α, J s α → NTr P N ops K u s α) : ∀ (c : Ch) (s : AS) (α : AH), NCh P N ops J c s α → NCh P N ops K (graftC u c) s α
  | .nil, s, α, h => by simp only [graftC, NCh]
  | .cons i t c, s, α, h => by
    simp only [NCh, graftC] at h ⊢
    exact ⟨nat_mono hsel h.1 fun s' α' hh => ntr_graft hsel hu t s' α' hh, nch_graft hsel hu c s α h.2⟩
end
end Go.Lay

set_option linter.unusedVariables false
set_option linter.unusedSimpArgs false
namespace Go.Lay
open Go Go.RowKit
attribute [simp] rep NOp NTake NAt aop guardOk wantedA yieldedA fitsA flatD flat upd_eq apick abox aalloc abuild abuildSlice afill abound seqA abuiltin apart afield aindex aextract anilCheck aun aconv aiface
  aint ashift anil nilOf aeq fEq sEq abin cstA cellsL Value.cells setL aresults List.mapM_cons junk undef Obj.noConfusion

section
variable (s : AS) (α : AH) (P : Program) (Q : Exit → AS → AH → Prop) (K : AS → AH → Prop)
@[simp] theorem ev_tmp (t : Nat) : ev s (.tmp t) = s t := rfl
@[simp] theorem ev_const (v : Value) : ev s (.const v) = if flatD v = true then v else junk := rfl
@[simp] theorem ev_func (f : FuncId) : ev s (.func f) = .func (.func f) #[] #[] := rfl
@[simp] theorem nthen_normal : nthen K Q .normal s α = K s α := rfl
@[simp] theorem nthen_ret : nthen K Q .ret s α = Q .ret s α := rfl
@[simp] theorem nthen_exit (i : Nat) : nthen K Q (.exit i) s α = Q (.exit i) s α := rfl
@[simp] theorem nblock_normal (i : Nat) : nblock i Q .normal s α = Q .normal s α := rfl
@[simp] theorem nblock_ret (i : Nat) : nblock i Q .ret s α = Q .ret s α := rfl
@[simp] theorem nblock_exit (i j : Nat) : nblock i Q (.exit j) s α = if j = i then Q .normal s α else Q (.exit j) s α := rfl
@[simp] theorem bodyQ_normal (rs : List ResultVar) (R : Value → AH → Prop) : bodyQ P rs R .normal s α = ∃ v, aresults P rs s α = some v ∧ R v α := rfl
@[simp] theorem bodyQ_ret (rs : List ResultVar) (R : Value → AH → Prop) : bodyQ P rs R .ret s α = ∃ v, aresults P rs s α = some v ∧ R v α := rfl
@[simp] theorem aresult_tmp (t : Nat) : aresult P s α (.tmp t) = some (s t) := rfl
@[simp] theorem aresult_cell (a : Nat) (t : TypeId) : aresult P s α (.cell a t) = aload P t (s a) α := rfl
@[simp] theorem initS_eq (args : List Value) (i : Nat) : initS args i = (args[i]?).getD undef := rfl
@[simp] theorem isCell_bool (b : Bool) : isCell (.bool b) = true := rfl
@[simp] theorem isCell_int (k : IntKind) (n : Int) : isCell (.int k n) = true := rfl
@[simp] theorem isCell_string (b : ByteArray) : isCell (.string b) = true := rfl
@[simp] theorem isCell_slice (a : Option Addr) (n c : Nat) : isCell (.slice a n c) = true := rfl
@[simp] theorem isCell_pointer (a : Option Addr) : isCell (.pointer a) = true := rfl
@[simp] theorem isCell_nilIface : isCell .nilIface = true := rfl
@[simp] theorem isCell_iface (t : TypeId) (v : Value) : isCell (.iface t v) = true := rfl
@[simp] theorem isCell_nilFunc : isCell .nilFunc = true := rfl
@[simp] theorem isCell_func (f : Fn) (a c : Array Value) : isCell (.func f a c) = true := rfl
end
/- What is still to be done, closed: it is looked into where a state is at hand, not ahead. -/
def kont (P : Program) (N : Nat) (ops : Array Oper) (K : AS → AH → Prop) (l : List Oper) : AS → AH → Prop := NOps P N ops K l
def ktr (P : Program) (N : Nat) (ops : Array Oper) (K : AS → AH → Prop) (t : Tr) : AS → AH → Prop := NTr P N ops K t
section
variable {P : Program} {N : Nat} {ops : Array Oper} {K : AS → AH → Prop} {s : AS} {α : AH}
@[simp] theorem kont_eq (l : List Oper) : kont P N ops K l s α = NOps P N ops K l s α := rfl
@[simp] theorem ktr_eq (t : Tr) : ktr P N ops K t s α = NTr P N ops K t s α := rfl
@[simp] theorem nops_nil : NOps P N ops K [] s α = K s α := rfl
@[simp] theorem nops_cons (o : Oper) (rest : List Oper) : NOps P N ops K (o :: rest) s α = (guardOk ops o s ∧ if wantedA ops o s = true then NOp P N o (kont P N ops K rest) s α else fitsA N o.dst ∧ NOps P N ops K rest (putA s o.dst undef) α) := rfl
@[simp] theorem ntr_done : NTr P N ops K .done s α = K s α := by simp only [NTr]
@[simp] theorem ntr_take (i : Nat) (t : Tr) : NTr P N ops K (.take i t) s α = NTake P N ops i (ktr P N ops K t) s α := by simp only [NTr]; rfl
@[simp] theorem ntr_pick (c : Ch) : NTr P N ops K (.pick c) s α = NCh P N ops K c s α := by simp only [NTr]
@[simp] theorem nch_nil : NCh P N ops K .nil s α = True := by simp only [NCh]
@[simp] theorem nch_cons (i : Nat) (t : Tr) (c : Ch) : NCh P N ops K (.cons i t c) s α = (NAt P N ops i (ktr P N ops K t) s α ∧ NCh P N ops K c s α) := by simp only [NCh]; rfl
end

/-! ### what an operation does at values whose form is seen -/
section
variable {P : Program} {t e : TypeId} {α : AH}
@[simp] theorem alen_slice (h : P.underlying t = some (.slice e)) (a : Option Addr) (n c : Nat) : alen P #[t] (.slice a n c) = some (.int .i64 n) := by simp [alen, h]
@[simp] theorem alen_string (h : P.underlying t = some .string) (s : ByteArray) : alen P #[t] (.string s) = some (.int .i64 (s.size : Int)) := by simp [alen, h]
@[simp] theorem aload_ptr (id off : Nat) : aload P t (.pointer (some ⟨id, off, none⟩)) α = match α.get id with
    | some b => match aggA P t with
      | some false => b.cells[off]?
      | some true => match sizeA P t with
        | some n => if off + n ≤ b.cells.length then some (.agg ((b.cells.drop off).take n).toArray) else none
        | none => none
      | none => none
    | none => none := rfl
@[simp] theorem astore_ptr (id off : Nat) (v : Value) : astore P t (.pointer (some ⟨id, off, none⟩)) v α = match α.get id with
    | some b => if b.own = true ∧ (cellsL v).all isCell = true ∧ sizeA P t = some (cellsL v).length ∧ off + (cellsL v).length ≤ b.cells.length then
        some (α.set id (some { b with cells := setL b.cells off (cellsL v) })) else none
    | none => none := rfl
@[simp] theorem afieldAddr_ptr {fs : Array Field} (h : P.underlying t = some (.struct fs)) (id off f : Nat) : afieldAddr P t (.pointer (some ⟨id, off, none⟩)) f = match fs[f]? with
    | some fd => match sizeA P fd.type with
      | some (_ + 1) => some (.pointer (some ⟨id, off + fd.offset, none⟩))
      | _ => none
    | none => none := by unfold afieldAddr; rw [h] <;> rfl
@[simp] theorem aindexAddr_slice (h : P.underlying t = some (.slice e)) (id off len c : Nat) (k : IntKind) (n : Int) : aindexAddr P t (.slice (some ⟨id, off, none⟩) len c) (.int k n) =
    if 0 ≤ n ∧ n < (len : Int) then (sizeA P e).map fun sz => .pointer (some ⟨id, off + n.toNat * sz, none⟩) else none := by simp [aindexAddr, h]
@[simp] theorem aindexAddr_array {m : Nat} (h : P.underlying t = some (.array m e)) (id off : Nat) (k : IntKind) (n : Int) : aindexAddr P t (.pointer (some ⟨id, off, none⟩)) (.int k n) =
    if 0 ≤ n ∧ n < (m : Int) then (sizeA P e).map fun sz => .pointer (some ⟨id, off + n.toNat * sz, none⟩) else none := by simp [aindexAddr, h]
end
section
variable {P : Program} {N : Nat} {Q : Exit → AS → AH → Prop} {s : AS} {α : AH}
theorem nw_yes {c : Operand} {x y : Code} (hc : ev s c = .bool true) (h : NW P N x Q s α) : NW P N (.cond c x y) Q s α := nw_cond hc (fun _ => h) (fun h => by cases h)
theorem nw_no {c : Operand} {x y : Code} (hc : ev s c = .bool false) (h : NW P N y Q s α) : NW P N (.cond c x y) Q s α := nw_cond hc (fun h => by cases h) (fun _ => h)
end
@[simp] theorem set_alloc_get (α : AH) (b : ABlk) (c : Option ABlk) : ((α.alloc b).set α.n c).get α.n = c := by simp
end Go.Lay

set_option linter.unusedVariables false
set_option linter.unusedSimpArgs false
namespace Go.Lay
open Go Go.RowKit

/-- Below N all is as it was. -/
structure Fr (N : Nat) (α α' : AH) : Prop where
  n : α.n ≤ α'.n
  get : ∀ id, id < N → α'.get id = α.get id
theorem Fr.refl (N : Nat) (α : AH) : Fr N α α := ⟨Nat.le_refl _, fun _ _ => rfl⟩
theorem Fr.trans {N : Nat} {a b c : AH} (h : Fr N a b) (k : Fr N b c) : Fr N a c := ⟨Nat.le_trans h.n k.n, fun i hi => (k.get i hi).trans (h.get i hi)⟩
theorem Fr.mono {N N' : Nat} {a b : AH} (h : Fr N a b) (hn : N' ≤ N) : Fr N' a b := ⟨h.n, fun i hi => h.get i (Nat.lt_of_lt_of_le hi hn)⟩
theorem Fr.alloc {N : Nat} {α β : AH} (h : Fr N α β) (hN : N ≤ β.n) (b : ABlk) : Fr N α (β.alloc b) :=
  ⟨Nat.le_succ_of_le h.n, fun i hi => by rw [AH.alloc_get_ne _ _ (by omega)]; exact h.get i hi⟩
theorem Fr.set {N : Nat} {α β : AH} (h : Fr N α β) {id : Nat} (hid : N ≤ id) (b : Option ABlk) : Fr N α (β.set id b) :=
  ⟨h.n, fun i hi => by rw [AH.set_get_ne _ _ (by omega)]; exact h.get i hi⟩

/-- A kind of values: how many cells, and what they are. -/
structure Kd (τ : Type) where
  sz : Nat
  R : AH → τ → List Value → Prop
  len : ∀ {α x c}, R α x c → c.length = sz
  cell : ∀ {α x c}, R α x c → ∀ v ∈ c, isCell v = true
  fr : ∀ {α α' x c}, Fr α.n α α' → R α x c → R α' x c

def intK (k : IntKind) : Kd Int := ⟨1, fun _ n c => c = [.int k n], fun h => by rw [h]; rfl, fun h v hv => by rw [h] at hv; simp at hv; subst hv; rfl, fun _ h => h⟩
def boolK : Kd Bool := ⟨1, fun _ n c => c = [.bool n], fun h => by rw [h]; rfl, fun h v hv => by rw [h] at hv; simp at hv; subst hv; rfl, fun _ h => h⟩
def strK : Kd ByteArray := ⟨1, fun _ n c => c = [.string n], fun h => by rw [h]; rfl, fun h v hv => by rw [h] at hv; simp at hv; subst hv; rfl, fun _ h => h⟩
/-- A kind whose cells are told by the value alone. -/
def flatK {τ : Type} (sz : Nat) (enc : τ → List Value) (h : ∀ x, (enc x).length = sz) (hc : ∀ x, ∀ v ∈ enc x, isCell v = true) : Kd τ :=
  ⟨sz, fun _ x c => c = enc x, fun e => by rw [e]; exact h _, fun e v hv => by rw [e] at hv; exact hc _ v hv, fun _ e => e⟩

/-- What is of this kind leads to no row whose elements are of type e. -/
def Kd.apart {τ : Type} (K : Kd τ) (e : TypeId) : Prop := ∀ (α : AH) (id : Nat) (b : ABlk) (o : Option ABlk) (x : τ) (c : List Value), α.get id = some b → b.elem = e → K.R α x c → K.R (α.set id o) x c
theorem flatK_apart {τ : Type} (sz : Nat) (enc : τ → List Value) (h : ∀ x, (enc x).length = sz) (hc : ∀ x, ∀ v ∈ enc x, isCell v = true) (e : TypeId) : (flatK sz enc h hc).apart e := fun _ _ _ _ _ _ _ _ h => h
theorem intK_apart (k : IntKind) (e : TypeId) : (intK k).apart e := fun _ _ _ _ _ _ _ _ h => h
theorem boolK_apart (e : TypeId) : boolK.apart e := fun _ _ _ _ _ _ _ _ h => h
theorem strK_apart (e : TypeId) : strK.apart e := fun _ _ _ _ _ _ _ _ h => h

/-- A slice that reads as a list. -/
def Sl {τ : Type} (e : TypeId) (K : Kd τ) (α : AH) (v : Value) (xs : List τ) : Prop :=
  (v = .slice none 0 0 ∧ xs = []) ∨ ∃ id off c b, v = .slice (some ⟨id, off, none⟩) xs.length c ∧ id < α.n ∧ α.get id = some b ∧ b.elem = e ∧ off + xs.length * K.sz ≤ b.cells.length ∧
    ∀ (i : Nat) (h : i < xs.length), K.R α xs[i] ((b.cells.drop (off + i * K.sz)).take K.sz)
theorem Sl.fr {τ : Type} {e : TypeId} {K : Kd τ} {α α' : AH} {v : Value} {xs : List τ} (h : Sl e K α v xs) (hf : Fr α.n α α') : Sl e K α' v xs := by
  rcases h with h | ⟨id, off, c, b, h1, h2, h3, h4, h5, h6⟩
  · exact .inl h
  · exact .inr ⟨id, off, c, b, h1, Nat.lt_of_lt_of_le h2 hf.n, by rw [hf.get id h2]; exact h3, h4, h5, fun i hi => K.fr hf (h6 i hi)⟩
theorem Sl.isCell {τ : Type} {e : TypeId} {K : Kd τ} {α : AH} {v : Value} {xs : List τ} (h : Sl e K α v xs) : Lay.isCell v = true := by
  rcases h with ⟨rfl, _⟩ | ⟨id, off, c, b, rfl, _⟩ <;> rfl
def sliceK {τ : Type} (e : TypeId) (K : Kd τ) : Kd (List τ) :=
  ⟨1, fun α xs c => ∃ v, c = [v] ∧ Sl e K α v xs, fun ⟨v, h, _⟩ => by rw [h]; rfl, fun ⟨v, h, k⟩ u hu => by rw [h] at hu; simp at hu; subst hu; exact k.isCell, fun hf ⟨v, h, k⟩ => ⟨v, h, k.fr hf⟩⟩

theorem Sl.set {τ : Type} {e e' : TypeId} {K : Kd τ} {α : AH} {v : Value} {xs : List τ} (h : Sl e K α v xs) {id : Nat} {b : ABlk} (hb : α.get id = some b) (hbe : b.elem = e') (hne : e ≠ e') (hk : K.apart e') (o : Option ABlk) : Sl e K (α.set id o) v xs := by
  rcases h with h | ⟨i, off, c, b', h1, h2, h3, h4, h5, h6⟩
  · exact .inl h
  · have hi : i ≠ id := fun hi => by subst hi; rw [hb] at h3; injection h3 with h3; subst h3; exact hne (h4.symm.trans hbe)
    exact .inr ⟨i, off, c, b', h1, h2, by rw [AH.set_get_ne _ _ hi]; exact h3, h4, h5, fun j hj => hk α id b o _ _ hb hbe (h6 j hj)⟩
theorem sliceK_apart {τ : Type} {e e' : TypeId} {K : Kd τ} (hne : e ≠ e') (hk : K.apart e') : (sliceK e K).apart e' := fun α id b o x c hb hbe ⟨v, h, k⟩ => ⟨v, h, k.set hb hbe hne hk o⟩

/-- What a slice says where it is read. -/
theorem Sl.rd {τ : Type} {e : TypeId} {K : Kd τ} {α : AH} {v : Value} {xs : List τ} (h : Sl e K α v xs) {P : Program} {t : TypeId} (hu : P.underlying t = some (.slice e)) (hs : sizeA P e = some K.sz) :
    ∃ id off, (alen P #[t] v = some (.int .i64 (xs.length : Int))) ∧
      (∀ (k : IntKind) (i : Nat), i < xs.length → aindexAddr P t v (.int k (i : Int)) = some (.pointer (some ⟨id, off + i * K.sz, none⟩))) ∧
      ∀ β, Fr α.n α β → ∀ (i : Nat) (hi : i < xs.length), ∃ b, β.get id = some b ∧ off + i * K.sz + K.sz ≤ b.cells.length ∧ K.R β xs[i] ((b.cells.drop (off + i * K.sz)).take K.sz) := by
  rcases h with ⟨rfl, rfl⟩ | ⟨id, off, c, b, rfl, h2, h3, h4, h5, h6⟩
  · exact ⟨0, 0, by simp [hu], fun k i hi => by simp at hi, fun β _ i hi => by simp at hi⟩
  · refine ⟨id, off, by simp [hu], fun k i hi => by simp [hu, hi, hs], fun β hf i hi => ⟨b, by rw [hf.get id h2]; exact h3, ?_, K.fr hf (h6 i hi)⟩⟩
    have : (i + 1) * K.sz ≤ xs.length * K.sz := Nat.mul_le_mul_right _ hi
    rw [Nat.succ_mul] at this
    omega

theorem take_get {l c : List Value} {n o j : Nat} (h : (l.drop o).take n = c) (hj : j < c.length) : l[o + j]? = c[j]? := by
  subst h
  have : j < n := by simp at hj; omega
  rw [List.getElem?_take, if_pos this, List.getElem?_drop]

/-- Whole elements, read. -/
theorem ld_agg {P : Program} {e : TypeId} {β : AH} {id o n : Nat} {b : ABlk} {c : List Value} (hb : β.get id = some b) (hf : o + n ≤ b.cells.length) (hc : (b.cells.drop o).take n = c) (ha : aggA P e = some true) (hs : sizeA P e = some n) :
    aload P e (.pointer (some ⟨id, o, none⟩)) β = some (.agg c.toArray) := by simp [hb, ha, hs, hf, hc]
theorem ld_cell {P : Program} {e : TypeId} {β : AH} {id o n j : Nat} {b : ABlk} {c : List Value} {v : Value} (hb : β.get id = some b) (hc : (b.cells.drop o).take n = c) (ha : aggA P e = some false) (hv : c[j]? = some v) :
    aload P e (.pointer (some ⟨id, o + j, none⟩)) β = some v := by
  have hj : j < c.length := (List.getElem?_eq_some_iff.1 hv).1
  simp [hb, ha, take_get hc hj, hv]

/-! ### rows of one's own -/
/-- A row that the call has made: nil, or the whole of a block from N on. -/
def Ow {τ : Type} (N : Nat) (e : TypeId) (K : Kd τ) (α : AH) (v : Value) (xs : List τ) : Prop :=
  (v = .slice none 0 0 ∧ xs = []) ∨ ∃ id c b, v = .slice (some ⟨id, 0, none⟩) xs.length c ∧ N ≤ id ∧ id < α.n ∧ α.get id = some b ∧ b.elem = e ∧ b.own = true ∧ xs.length * K.sz ≤ b.cells.length ∧
    ∀ (i : Nat) (h : i < xs.length), K.R α xs[i] ((b.cells.drop (i * K.sz)).take K.sz)
theorem Ow.sl {τ : Type} {N : Nat} {e : TypeId} {K : Kd τ} {α : AH} {v : Value} {xs : List τ} (h : Ow N e K α v xs) : Sl e K α v xs := by
  rcases h with h | ⟨id, c, b, h1, h2, h3, h4, h5, h6, h7, h8⟩
  · exact .inl h
  · exact .inr ⟨id, 0, c, b, h1, h3, h4, h5, by omega, fun i hi => by rw [Nat.zero_add]; exact h8 i hi⟩
theorem Ow.nil {τ : Type} {N : Nat} {e : TypeId} {K : Kd τ} {α : AH} : Ow N e K α (.slice none 0 0) [] := .inl ⟨rfl, rfl⟩
theorem Ow.mono {τ : Type} {N N' : Nat} {e : TypeId} {K : Kd τ} {α : AH} {v : Value} {xs : List τ} (h : Ow N e K α v xs) (hn : N' ≤ N) : Ow N' e K α v xs := by
  rcases h with h | ⟨id, c, b, h1, h2, h3⟩
  · exact .inl h
  · exact .inr ⟨id, c, b, h1, Nat.le_trans hn h2, h3⟩
theorem Ow.fr {τ : Type} {N : Nat} {e : TypeId} {K : Kd τ} {α α' : AH} {v : Value} {xs : List τ} (h : Ow N e K α v xs) (hf : Fr α.n α α') : Ow N e K α' v xs := by
  rcases h with h | ⟨id, c, b, h1, h2, h3, h4, h5, h6, h7, h8⟩
  · exact .inl h
  · exact .inr ⟨id, c, b, h1, h2, Nat.lt_of_lt_of_le h3 hf.n, by rw [hf.get id h3]; exact h4, h5, h6, h7, fun i hi => K.fr hf (h8 i hi)⟩

/-- What a type says of a slice of its elements. -/
structure ElT (P : Program) (t e : TypeId) (sz by_ : Nat) : Prop where
  under : P.underlying t = some (.slice e)
  size : sizeA P e = some sz
  zero : ∃ z, zeroA P e = some z ∧ flatD z = true ∧ (cellsL z).all isCell = true ∧ (cellsL z).length = sz
  bytes : bytesA P e = by_
  pos : 0 < by_
  szpos : 0 < sz

/-- Blocks whose elements are of other types are as they were. -/
def Kp (e : TypeId) (α α' : AH) : Prop := ∀ i b, α.get i = some b → b.elem ≠ e → i < α.n → α'.get i = some b
theorem Kp.refl (e : TypeId) (α : AH) : Kp e α α := fun _ _ h _ _ => h
theorem Kp.alloc {e : TypeId} {α β : AH} (h : Kp e α β) (hn : α.n ≤ β.n) (c : ABlk) : Kp e α (β.alloc c) := fun i b h1 h2 h3 => by rw [AH.alloc_get_ne _ _ (by omega)]; exact h i b h1 h2 h3
theorem Kp.fr {e : TypeId} {α β : AH} (h : Fr α.n α β) : Kp e α β := fun i b h1 _ h3 => by rw [h.get i h3]; exact h1
theorem Kp.trans {e : TypeId} {α β γ : AH} (h : Kp e α β) (k : Kp e β γ) (hn : α.n ≤ β.n) : Kp e α γ := fun i b h1 h2 h3 => k i b (h i b h1 h2 h3) h2 (Nat.lt_of_lt_of_le h3 hn)
theorem Kp.set {e : TypeId} {α : AH} {id : Nat} {b : ABlk} (hb : α.get id = some b) (he : b.elem = e) (o : Option ABlk) : Kp e α (α.set id o) := fun i c h1 h2 h3 => by
  rw [AH.set_get_ne _ _ (fun hi => by subst hi; rw [hb] at h1; injection h1 with h1; subst h1; exact h2 he)]; exact h1

theorem drop_append_cells {a b : List Value} {n i sz : Nat} (ha : a.length = n * sz) (h : i = n) : ((a ++ b).drop (i * sz)).take sz = b.take sz := by
  subst h
  rw [← ha, List.drop_left]

/-- append of elements to a row of one's own. -/
theorem Ow.append {τ : Type} {N : Nat} {e : TypeId} {K : Kd τ} {α : AH} {v x : Value} {xs ys : List τ} (h : Ow N e K α v xs) {P : Program} {t : TypeId} {by_ : Nat} (T : ElT P t e K.sz by_) (hN : N ≤ α.n) (hy : Sl e K α x ys)
    (hk : K.apart e) (hl : (xs.length + ys.length) * by_ ≤ 140737488355328) :
    ∃ v' α', aappend P #[t, t] v x α = some (v', α') ∧ Ow N e K α' v' (xs ++ ys) ∧ Fr N α α' ∧ Kp e α α' := by
  obtain ⟨hu, hs, ⟨z, hz, hz1, hz2, hz3⟩, hb, hb0, hs0⟩ := T
  have hyR : ∃ vs, asrc K.sz x α = some (ys.length, vs) ∧ vs.length = ys.length * K.sz ∧ ∀ (i : Nat) (hi : i < ys.length), K.R α ys[i] ((vs.drop (i * K.sz)).take K.sz) := by
    rcases hy with ⟨rfl, rfl⟩ | ⟨id, off, c, b, rfl, h2, h3, h4, h5, h6⟩
    · exact ⟨[], rfl, by simp, fun i hi => by simp at hi⟩
    · refine ⟨(b.cells.drop off).take (ys.length * K.sz), by simp only [asrc, h3]; rw [if_pos h5], by simp; omega, fun i hi => ?_⟩
      have : (i + 1) * K.sz ≤ ys.length * K.sz := Nat.mul_le_mul_right _ hi
      rw [Nat.succ_mul] at this
      have e1 : ((((b.cells.drop off).take (ys.length * K.sz)).drop (i * K.sz)).take K.sz) = (b.cells.drop (off + i * K.sz)).take K.sz := by
        rw [List.drop_take, List.drop_drop, List.take_take, Nat.min_eq_left (by omega)]
      rw [e1]
      exact h6 i hi
  obtain ⟨vs, hv1, hv2, hv3⟩ := hyR
  have hseq : seqA (some (.slice e)) = true := rfl
  have both : ∀ (pre : List Value), pre.length = xs.length * K.sz → (∀ (i : Nat) (hi : i < xs.length), K.R α xs[i] ((pre.drop (i * K.sz)).take K.sz)) →
      ∀ (i : Nat) (hi : i < (xs ++ ys).length), K.R α (xs ++ ys)[i] (((pre ++ vs).drop (i * K.sz)).take K.sz) := fun pre hp hR i hi => by
    by_cases hlt : i < xs.length
    · have : (i + 1) * K.sz ≤ xs.length * K.sz := Nat.mul_le_mul_right _ hlt
      rw [Nat.succ_mul] at this
      rw [List.getElem_append_left hlt, List.drop_append_of_le_length (by omega), List.take_append_of_le_length (by simp; omega)]
      exact hR i hlt
    · rw [List.getElem_append_right (by omega)]
      have e2 : i * K.sz = pre.length + (i - xs.length) * K.sz := by rw [hp, ← Nat.add_mul]; congr 1; omega
      rw [e2, List.drop_append]
      have : pre.drop (pre.length + (i - xs.length) * K.sz) = [] := List.drop_eq_nil_of_le (by omega)
      rw [this, List.nil_append, Nat.add_sub_cancel_left]
      exact hv3 _ (by simp at hi; omega)
  rcases h with ⟨rfl, rfl⟩ | ⟨id, c, b, rfl, h2, h3, h4, h5, h6, h7, h8⟩
  · by_cases hn : ys.length = 0
    · refine ⟨.slice none 0 0, α, ?_, .inl ⟨rfl, by simpa using hn⟩, .refl _ _, .refl _ _⟩
      simp only [aappend, hu, hz, hs, hv1]
      rw [if_pos ⟨hseq, hz3, by rw [hb]; exact hb0⟩, if_pos hn]
    · refine ⟨.slice (some ⟨α.n, 0, none⟩) ys.length 0, α.alloc ⟨vs, e, true⟩, ?_, ?_, (Fr.refl _ _).alloc hN _, (Kp.refl _ _).alloc (Nat.le_refl _) _⟩
      · simp only [aappend, hu, hz, hs, hv1]
        rw [if_pos ⟨hseq, hz3, by rw [hb]; exact hb0⟩, if_neg hn, if_pos (by rw [hb]; simpa using hl)]
      · refine .inr ⟨α.n, 0, _, by simp, hN, by simp, AH.alloc_get _ _, rfl, rfl, by simp [hv2], fun i hi => K.fr ((Fr.refl _ _).alloc (Nat.le_refl _) _) ?_⟩
        have := both [] (by simp) (fun i hi => by simp at hi) i hi
        simpa using this
  · refine ⟨.slice (some ⟨α.n, 0, none⟩) (xs.length + ys.length) 0, (α.set id none).alloc ⟨(b.cells.drop 0).take (xs.length * K.sz) ++ vs, e, true⟩, ?_, ?_, ((Fr.refl N α).set h2 none).alloc hN _, (Kp.set h4 h5 none).alloc (Nat.le_refl _) _⟩
    · simp only [aappend, hu, hz, hs, hv1, h4]
      rw [if_pos ⟨hseq, hz3, by rw [hb]; exact hb0⟩, if_pos ⟨h6, h5, by omega, by rw [hb]; exact hl⟩]
    · have hpre : ((b.cells.drop 0).take (xs.length * K.sz)).length = xs.length * K.sz := by simp; omega
      refine .inr ⟨α.n, 0, ⟨(b.cells.drop 0).take (xs.length * K.sz) ++ vs, e, true⟩, by simp, hN, by simp, by rw [show α.n = (α.set id none).n from rfl]; exact AH.alloc_get _ _, rfl, rfl, ?_, fun i hi => K.fr (α := α.set id none) ((Fr.refl _ _).alloc (Nat.le_refl _) _) (hk α id b none _ _ h4 h5 ?_)⟩
      · show (xs ++ ys).length * K.sz ≤ ((b.cells.drop 0).take (xs.length * K.sz) ++ vs).length
        rw [List.length_append, List.length_append, hpre, hv2, Nat.add_mul]; exact Nat.le_refl _
      · refine both _ hpre (fun i hi => ?_) i hi
        have : (i + 1) * K.sz ≤ xs.length * K.sz := Nat.mul_le_mul_right _ hi
        rw [Nat.succ_mul] at this
        rw [List.drop_zero, List.drop_take, List.take_take, Nat.min_eq_left (by omega)]
        exact h8 i hi
end Go.Lay

set_option linter.unusedVariables false
set_option linter.unusedSimpArgs false
namespace Go.Lay
open Go Go.RowKit
theorem Fr.up {a b c : AH} (h : Fr a.n a b) (k : Fr b.n b c) : Fr a.n a c := h.trans (k.mono h.n)
section
variable {τ : Type} {N : Nat} {e : TypeId} {K : Kd τ} {α : AH} {v : Value} {xs : List τ}
theorem Sl.one {x : τ} {c : List Value} (hx : K.R α x c) (cap : Nat) : Sl e K (α.alloc ⟨c, e, true⟩) (.slice (some ⟨α.n, 0, none⟩) 1 cap) [x] := by
  have hl := K.len hx
  refine .inr ⟨α.n, 0, cap, ⟨c, e, true⟩, rfl, by simp [AH.alloc], AH.alloc_get _ _, rfl, by simp [hl], fun i hi => ?_⟩
  have : i = 0 := by simp at hi; exact hi
  subst this
  have := K.fr ((Fr.refl _ _).alloc (Nat.le_refl _) ⟨c, e, true⟩) hx
  simpa [← hl] using this
/-- One more. -/
theorem Ow.push (h : Ow N e K α v xs) {P : Program} {t : TypeId} {by_ : Nat} (T : ElT P t e K.sz by_) (hN : N ≤ α.n) {x : τ} {c : List Value} (hx : K.R α x c) (hk : K.apart e) (hl : (xs.length + 1) * by_ ≤ 140737488355328) (cap : Nat) :
    ∃ v' α', aappend P #[t, t] v (.slice (some ⟨α.n, 0, none⟩) 1 cap) (α.alloc ⟨c, e, true⟩) = some (v', α') ∧ Ow N e K α' v' (xs ++ [x]) ∧ Fr N α α' ∧ Kp e α α' := by
  have hf : Fr α.n α (α.alloc ⟨c, e, true⟩) := (Fr.refl _ _).alloc (Nat.le_refl _) _
  obtain ⟨v', α', h1, h2, h3, h4⟩ := (h.fr hf).append T (Nat.le_trans hN hf.n) (Sl.one (e := e) hx cap) hk (by simpa using hl)
  exact ⟨v', α', h1, h2, (hf.mono hN).trans h3, (Kp.fr hf).trans h4 hf.n⟩
theorem Ow.one {x : τ} {c : List Value} (hN : N ≤ α.n) (hx : K.R α x c) (cap : Nat) : Ow N e K (α.alloc ⟨c, e, true⟩) (.slice (some ⟨α.n, 0, none⟩) 1 cap) [x] := by
  have hl := K.len hx
  refine .inr ⟨α.n, cap, ⟨c, e, true⟩, rfl, hN, by simp [AH.alloc], AH.alloc_get _ _, rfl, rfl, by simp [hl], fun i hi => ?_⟩
  have : i = 0 := by simp at hi; exact hi
  subst this
  have := K.fr ((Fr.refl _ _).alloc (Nat.le_refl _) ⟨c, e, true⟩) hx
  simpa [← hl] using this
theorem Ow.mem (h : Ow N e K α v xs) (hn : 0 < xs.length) : ∃ id c cs, v = .slice (some ⟨id, 0, none⟩) xs.length c ∧ N ≤ id ∧ id < α.n ∧ α.get id = some ⟨cs, e, true⟩ ∧ xs.length * K.sz ≤ cs.length ∧
    ∀ (i : Nat) (h : i < xs.length), K.R α xs[i] ((cs.drop (i * K.sz)).take K.sz) := by
  rcases h with ⟨_, rfl⟩ | ⟨id, c, b, h1, h2, h3, h4, h5, h6, h7, h8⟩
  · simp at hn
  · obtain ⟨cs, e', o⟩ := b
    subst h5; subst h6
    exact ⟨id, c, cs, h1, h2, h3, h4, h7, h8⟩
theorem Ow.mk {id c : Nat} {cs : List Value} (h2 : N ≤ id) (h3 : id < α.n) (h4 : α.get id = some ⟨cs, e, true⟩) (h7 : xs.length * K.sz ≤ cs.length) (h8 : ∀ (i : Nat) (h : i < xs.length), K.R α xs[i] ((cs.drop (i * K.sz)).take K.sz)) :
    Ow N e K α (.slice (some ⟨id, 0, none⟩) xs.length c) xs := .inr ⟨id, c, _, rfl, h2, h3, h4, rfl, rfl, h7, h8⟩
theorem mul_place {sz i j o p : Nat} (ho : o < sz) (hp : p < sz) (h : i * sz + o = j * sz + p) : i = j ∧ o = p := by
  have h1 : (i * sz + o) / sz = i := by rw [Nat.mul_comm, Nat.mul_add_div (by omega), Nat.div_eq_of_lt ho]; omega
  have h2 : (j * sz + p) / sz = j := by rw [Nat.mul_comm, Nat.mul_add_div (by omega), Nat.div_eq_of_lt hp]; omega
  have : i = j := by rw [← h1, ← h2, h]
  subst this
  exact ⟨rfl, by omega⟩
theorem set_window {cs : List Value} {i j o sz : Nat} {u : Value} (ho : o < sz) :
    ((cs.set (i * sz + o) u).drop (j * sz)).take sz = if i = j then ((cs.drop (j * sz)).take sz).set o u else (cs.drop (j * sz)).take sz := by
  apply List.ext_getElem?
  intro p
  by_cases hp : p < sz
  · rw [List.getElem?_take, if_pos hp, List.getElem?_drop, List.getElem?_set]
    by_cases hij : i = j
    · subst hij
      rw [if_pos rfl, List.getElem?_set]
      by_cases hop : o = p
      · subst hop
        simp [hp]
        by_cases hc : i * sz + o < cs.length
        · rw [if_pos hc, if_pos (by omega)]
        · rw [if_neg hc, if_neg (by omega)]
      · rw [if_neg (by omega), if_neg hop, List.getElem?_take, if_pos hp, List.getElem?_drop]
    · rw [if_neg hij, if_neg (fun h => hij (mul_place ho hp h).1), List.getElem?_take, if_pos hp, List.getElem?_drop]
  · have l1 : (((cs.set (i * sz + o) u).drop (j * sz)).take sz).length ≤ p := by simp; omega
    have l2 : ((cs.drop (j * sz)).take sz).length ≤ p := by simp; omega
    rw [List.getElem?_eq_none l1]
    split
    · rw [List.getElem?_eq_none (by simpa using l2)]
    · rw [List.getElem?_eq_none l2]
/-- One place of one element changed. -/
theorem Ow.put1 (hk : K.apart e) {id c : Nat} {cs : List Value} (h2 : N ≤ id) (h3 : id < α.n) (h4 : α.get id = some ⟨cs, e, true⟩) (h7 : xs.length * K.sz ≤ cs.length) (h8 : ∀ (i : Nat) (h : i < xs.length), K.R α xs[i] ((cs.drop (i * K.sz)).take K.sz))
    (i o : Nat) (ho : o < K.sz) (u : Value) (x' : τ) (hx : K.R α x' (((cs.drop (i * K.sz)).take K.sz).set o u)) (k : Nat) (hkk : k = i * K.sz + o) :
    Ow N e K (α.set id (some ⟨cs.set k u, e, true⟩)) (.slice (some ⟨id, 0, none⟩) xs.length c) (xs.set i x') := by
  subst hkk
  have := Ow.mk (N := N) (K := K) (xs := xs.set i x') (c := c) (α := α.set id (some ⟨cs.set (i * K.sz + o) u, e, true⟩)) h2 h3 (AH.set_get _ _ _) (by simpa using h7) fun j hj => by
    refine hk α id _ _ _ _ h4 rfl ?_
    rw [set_window ho]
    by_cases hij : i = j
    · subst hij
      simpa using hx
    · rw [if_neg hij]
      have := h8 j (by simpa using hj)
      rw [List.getElem_set_ne hij]
      exact this
  simpa using this
/-- A row cut off. -/
theorem Ow.cut {id c c' : Nat} (h : Ow N e K α (.slice (some ⟨id, 0, none⟩) xs.length c) xs) (n : Nat) (hn : n ≤ xs.length) : Ow N e K α (.slice (some ⟨id, 0, none⟩) n c') (xs.take n) := by
  rcases h with ⟨h, _⟩ | ⟨id', c'', b, h1, h2, h3, h4, h5, h6, h7, h8⟩
  · injection h with h; cases h
  · injection h1 with h1 _ _
    injection h1 with h1
    injection h1 with h1
    subst h1
    have hm : n * K.sz ≤ xs.length * K.sz := Nat.mul_le_mul_right _ hn
    refine .inr ⟨id, c', b, by simp [Nat.min_eq_left hn], h2, h3, h4, h5, h6, by simp [Nat.min_eq_left hn]; omega, fun i hi => ?_⟩
    rw [List.getElem_take]
    exact h8 i (by simp at hi; omega)
end
end Go.Lay
