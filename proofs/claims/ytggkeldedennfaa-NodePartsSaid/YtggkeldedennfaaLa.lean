/- The layer, part 1: abstract memory and what relates it to the machine's world. -/
import Derived.Below
import Derived.Tactics
import Derived.KernelRfl
import Derived.Deep.LoopGhost
import Derived.Laws.IdiomCopy
import Derived.Laws.Tables
import Derived.Laws.Cells
import Derived.Laws.Append
import Derived.Deep.MidRow
set_option linter.unusedVariables false
set_option linter.unusedSimpArgs false
namespace Go.Lay
open Go Go.RowKit

def junk : Value := .chan (some 0)

def flat : Value → Bool
  | .bool _ | .int _ _ | .float _ _ | .complex _ _ _ | .string _ => true
  | .pointer none | .slice none 0 0 | .map none | .chan none | .nilFunc | .nilIface => true
  | .tuple vs => vs.size == 0
  | .func _ a b => a.size == 0 && b.size == 0
  | _ => false

def isCell : Value → Bool
  | .agg _ | .tuple _ | .chan (some _) => false
  | _ => true

/-- closed values: flat ones, and aggregates of flat ones -/
def flatD : Value → Bool
  | .agg cs => cs.toList.all fun x => flat x && isCell x
  | v => flat v

theorem isCell_one {v : Value} (h : isCell v = true) : v.oneCell' = true := by
  cases v <;> simp_all [isCell, Value.oneCell']

structure AM where
  n : Nat
  b : Nat → Nat
  base : Nat → Nat
  top : Nat → Nat
  sz : Nat → Nat

structure AM.le (m m' : AM) : Prop where
  n : m.n ≤ m'.n
  b : ∀ i, i < m.n → m'.b i = m.b i
  base : ∀ i, i < m.n → m'.base i = m.base i
  top : ∀ i, i < m.n → m'.top i = m.top i
  sz : ∀ i, i < m.n → m'.sz i = m.sz i

theorem AM.le.refl (m : AM) : m.le m := ⟨Nat.le_refl _, fun _ _ => rfl, fun _ _ => rfl, fun _ _ => rfl, fun _ _ => rfl⟩
theorem AM.le.trans {a b c : AM} (h : a.le b) (k : b.le c) : a.le c :=
  ⟨Nat.le_trans h.n k.n, fun i hi => (k.b i (Nat.lt_of_lt_of_le hi h.n)).trans (h.b i hi), fun i hi => (k.base i (Nat.lt_of_lt_of_le hi h.n)).trans (h.base i hi),
   fun i hi => (k.top i (Nat.lt_of_lt_of_le hi h.n)).trans (h.top i hi), fun i hi => (k.sz i (Nat.lt_of_lt_of_le hi h.n)).trans (h.sz i hi)⟩

inductive VR (m : AM) : Value → Value → Prop
  | jk (v : Value) : VR m junk v
  | fl {v : Value} (h : flat v = true) : VR m v v
  | ptr {id off : Nat} (h : id < m.n) : VR m (.pointer (some ⟨id, off, none⟩)) (.pointer (some ⟨m.b id, m.base id + off, none⟩))
  | sl {id off len c c' o' : Nat} (h : id < m.n) (ho : 0 < len → o' = m.base id + off) (hl : len ≤ c') (ht : o' + c' * m.sz id ≤ m.top id) :
      VR m (.slice (some ⟨id, off, none⟩) len c) (.slice (some ⟨m.b id, o', none⟩) len c')
  | iface {t : TypeId} {v v' : Value} (h : VR m v v') : VR m (.iface t v) (.iface t v')
  | agg {cs cs' : Array Value} (hs : cs.size = cs'.size) (h : ∀ i : Nat, VR m (cs[i]?.getD undef) (cs'[i]?.getD undef)) : VR m (.agg cs) (.agg cs')
  | tuple {cs cs' : Array Value} (hs : cs.size = cs'.size) (h : ∀ i : Nat, VR m (cs[i]?.getD undef) (cs'[i]?.getD undef)) : VR m (.tuple cs) (.tuple cs')
  | func {fn : Fn} {f f' c c' : Array Value} (hf : f.size = f'.size) (h : ∀ i : Nat, VR m (f[i]?.getD undef) (f'[i]?.getD undef)) (hc : c.size = c'.size) (k : ∀ i : Nat, VR m (c[i]?.getD undef) (c'[i]?.getD undef)) :
      VR m (.func fn f c) (.func fn f' c')

theorem VR.undef (m : AM) : VR m undef undef := .fl rfl

theorem VR.mono {m m' : AM} (hm : m.le m') {v v' : Value} (h : VR m v v') : VR m' v v' := by
  induction h with
  | jk v => exact .jk v
  | fl h => exact .fl h
  | ptr h => rename_i id off; rw [← hm.b id h, ← hm.base id h]; exact .ptr (Nat.lt_of_lt_of_le h hm.n)
  | sl h ho hl ht =>
    rename_i id off len c c' o'
    rw [← hm.b id h]
    exact .sl (Nat.lt_of_lt_of_le h hm.n) (by rw [hm.base id h]; exact ho) hl (by rw [hm.sz id h, hm.top id h]; exact ht)
  | iface _ ih => exact .iface ih
  | agg hs _ ih => exact .agg hs ih
  | tuple hs _ ih => exact .tuple hs ih
  | func hf _ hc _ ih1 ih2 => exact .func hf ih1 hc ih2

theorem VR.eq_flat {m : AM} {v v' : Value} (h : VR m v v') (hf : flat v = true) : v' = v := by
  cases h with
  | jk v => simp [flat, junk] at hf
  | fl h => rfl
  | ptr h => simp [flat] at hf
  | sl h => simp [flat] at hf
  | iface h => simp [flat] at hf
  | agg => simp [flat] at hf
  | tuple hs h =>
    simp [flat] at hf
    subst hf
    have := Array.eq_empty_of_size_eq_zero hs.symm
    rw [this]
  | func h1 _ h2 _ =>
    simp [flat] at hf
    obtain ⟨rfl, rfl⟩ := hf
    rw [Array.eq_empty_of_size_eq_zero h1.symm, Array.eq_empty_of_size_eq_zero h2.symm]

theorem VR.one {m : AM} {v v' : Value} (h : VR m v v') (hc : isCell v = true) : isCell v' = true := by
  cases h <;> simp_all [isCell, junk]

/-- lists of values, place by place -/
def VRL (m : AM) (l l' : List Value) : Prop := l.length = l'.length ∧ ∀ (i : Nat) (x : Value), l[i]? = some x → ∃ x', l'[i]? = some x' ∧ VR m x x'

theorem VRL.mono {m m' : AM} (hm : m.le m') {l l' : List Value} (h : VRL m l l') : VRL m' l l' :=
  ⟨h.1, fun i x hx => let ⟨x', h1, h2⟩ := h.2 i x hx; ⟨x', h1, h2.mono hm⟩⟩
theorem VRL.nil (m : AM) : VRL m [] [] := ⟨rfl, fun i x h => by simp at h⟩
theorem VRL.cons {m : AM} {x x' : Value} {l l' : List Value} (h : VR m x x') (t : VRL m l l') : VRL m (x :: l) (x' :: l') :=
  ⟨by simp [t.1], fun i y hy => by
    cases i with
    | zero => simp at hy; subst hy; exact ⟨x', by simp, h⟩
    | succ i => simp at hy; obtain ⟨y', h1, h2⟩ := t.2 i y hy; exact ⟨y', by simpa using h1, h2⟩⟩
theorem VRL.append {m : AM} {a a' b b' : List Value} (h : VRL m a a') (k : VRL m b b') : VRL m (a ++ b) (a' ++ b') := by
  refine ⟨by simp [h.1, k.1], fun i x hx => ?_⟩
  rw [List.getElem?_append] at hx
  rw [List.getElem?_append]
  by_cases hi : i < a.length
  · rw [if_pos hi] at hx; rw [if_pos (h.1 ▸ hi)]; exact h.2 i x hx
  · rw [if_neg hi] at hx; rw [if_neg (h.1 ▸ hi), ← h.1]; exact k.2 _ x hx
theorem VRL.drop {m : AM} {a a' : List Value} (h : VRL m a a') (n : Nat) : VRL m (a.drop n) (a'.drop n) :=
  ⟨by simp [h.1], fun i x hx => by rw [List.getElem?_drop] at hx ⊢; exact h.2 _ x hx⟩
theorem VRL.take {m : AM} {a a' : List Value} (h : VRL m a a') (n : Nat) : VRL m (a.take n) (a'.take n) := by
  refine ⟨by simp [h.1], fun i x hx => ?_⟩
  rw [List.getElem?_take] at hx ⊢
  by_cases hi : i < n
  · rw [if_pos hi] at hx ⊢; exact h.2 _ x hx
  · rw [if_neg hi] at hx; cases hx
theorem VRL.of_array {m : AM} {a a' : Array Value} (hs : a.size = a'.size) (h : ∀ i : Nat, VR m (a[i]?.getD undef) (a'[i]?.getD undef)) : VRL m a.toList a'.toList := by
  refine ⟨by simpa using hs, fun i x hx => ?_⟩
  rw [Array.getElem?_toList] at hx
  have hi : i < a.size := (Array.getElem?_eq_some_iff.1 hx).1
  have hk := h i
  rw [hx, Array.getElem?_eq_getElem (hs ▸ hi)] at hk
  exact ⟨a'[i]'(hs ▸ hi), by rw [Array.getElem?_toList, Array.getElem?_eq_getElem (hs ▸ hi)], hk⟩
theorem VRL.at {m : AM} {a a' : List Value} (h : VRL m a a') (i : Nat) : VR m (a[i]?.getD Go.undef) (a'[i]?.getD Go.undef) := by
  rcases Nat.lt_or_ge i a.length with hi | hi
  · obtain ⟨x', h1, h2⟩ := h.2 i a[i] (List.getElem?_eq_getElem hi)
    rw [h1, List.getElem?_eq_getElem hi]; exact h2
  · rw [List.getElem?_eq_none hi, List.getElem?_eq_none (h.1 ▸ hi)]; exact VR.undef m
theorem VRL.agg {m : AM} {a a' : List Value} (h : VRL m a a') : VR m (.agg a.toArray) (.agg a'.toArray) := .agg (by simpa using h.1) (fun i => by simpa using h.at i)
theorem VRL.tuple {m : AM} {a a' : List Value} (h : VRL m a a') : VR m (.tuple a.toArray) (.tuple a'.toArray) := .tuple (by simpa using h.1) (fun i => by simpa using h.at i)
theorem VRL.set {m : AM} {a a' : List Value} (h : VRL m a a') {x x' : Value} (hx : VR m x x') (n : Nat) : VRL m (a.set n x) (a'.set n x') := by
  refine ⟨by simp [h.1], fun i y hy => ?_⟩
  rw [List.getElem?_set] at hy ⊢
  by_cases hi : n = i
  · subst hi
    rw [if_pos rfl] at hy ⊢
    by_cases hl : n < a.length
    · rw [if_pos hl] at hy; injection hy with hy; subst hy; exact ⟨x', by rw [if_pos (h.1 ▸ hl)], hx⟩
    · rw [if_neg hl] at hy; cases hy
  · rw [if_neg hi] at hy ⊢; exact h.2 i y hy
theorem VRL.flat {m : AM} {l : List Value} (h : ∀ x ∈ l, flat x = true) : VRL m l l := ⟨rfl, fun i x hx => ⟨x, hx, .fl (h x (List.mem_of_getElem? hx))⟩⟩

/-- the cells of a value -/
def cellsL (v : Value) : List Value := v.cells.toList
theorem VR.cells {m : AM} {v v' : Value} (h : VR m v v') (hj : (cellsL v).all isCell = true) : VRL m (cellsL v) (cellsL v') := by
  cases h with
  | jk v => simp [cellsL, Value.cells, junk, isCell] at hj
  | fl h => exact ⟨rfl, fun i x hx => ⟨x, hx, by
      cases v <;> simp_all [cellsL, Value.cells, Go.Lay.flat] <;> (obtain ⟨rfl⟩ := List.mem_singleton.1 (List.mem_of_getElem? hx); exact .fl (by simp_all [Go.Lay.flat]))⟩⟩
  | agg hs h => exact VRL.of_array hs h
  | tuple hs h => simp [cellsL, Value.cells, isCell] at hj
  | ptr h => exact .cons (.ptr h) (.nil m)
  | sl h ho hl ht => exact .cons (.sl h ho hl ht) (.nil m)
  | iface h => exact .cons (.iface h) (.nil m)
  | func a b c d => exact .cons (.func a b c d) (.nil m)

/-! ### abstract memory -/
structure ABlk where
  cells : List Value
  elem : TypeId
  own : Bool
structure AH where
  n : Nat
  get : Nat → Option ABlk
def AH.alloc (α : AH) (b : ABlk) : AH := ⟨α.n + 1, fun i => if i = α.n then some b else α.get i⟩
def AH.set (α : AH) (id : Nat) (b : Option ABlk) : AH := ⟨α.n, fun i => if i = id then b else α.get i⟩
@[simp] theorem AH.alloc_n (α : AH) (b : ABlk) : (α.alloc b).n = α.n + 1 := rfl
@[simp] theorem AH.set_n (α : AH) (i : Nat) (b : Option ABlk) : (α.set i b).n = α.n := rfl
@[simp] theorem AH.alloc_get (α : AH) (b : ABlk) : (α.alloc b).get α.n = some b := by simp [AH.alloc]
theorem AH.alloc_get_ne (α : AH) (b : ABlk) {i : Nat} (h : i ≠ α.n) : (α.alloc b).get i = α.get i := by simp [AH.alloc, h]
@[simp] theorem AH.set_get (α : AH) (i : Nat) (b : Option ABlk) : (α.set i b).get i = b := by simp [AH.set]
theorem AH.set_get_ne (α : AH) (b : Option ABlk) {i j : Nat} (h : i ≠ j) : (α.set j b).get i = α.get i := by simp [AH.set, h]

def setL : List Value → Nat → List Value → List Value
  | l, _, [] => l
  | l, o, v :: vs => setL (l.set o v) (o + 1) vs
theorem length_setL : ∀ (vs : List Value) (l : List Value) (o : Nat), (setL l o vs).length = l.length
  | [], _, _ => rfl
  | v :: vs, l, o => by rw [setL, length_setL vs]; simp
theorem get_setL : ∀ (vs : List Value) (l : List Value) (o i : Nat), o + vs.length ≤ l.length →
    (setL l o vs)[i]? = if o ≤ i ∧ i < o + vs.length then vs[i - o]? else l[i]?
  | [], l, o, i, _ => by rw [setL, if_neg (by simp only [List.length_nil]; omega)]
  | v :: vs, l, o, i, h => by
    simp only [List.length_cons] at h
    rw [setL, get_setL vs _ _ _ (by simp; omega)]
    by_cases h1 : o + 1 ≤ i ∧ i < o + 1 + vs.length
    · rw [if_pos h1, if_pos (by simp; omega), show i - o = (i - (o + 1)) + 1 from by omega]; simp
    · rw [if_neg h1]
      by_cases h2 : i = o
      · subst h2
        rw [if_pos (by simp), List.getElem?_set_self (by omega)]; simp
      · rw [if_neg (by simp; omega), List.getElem?_set_ne (Ne.symm h2)]

structure Rel (P : Program) (G : World) (m : AM) (α : AH) (w : World) : Prop where
  n : m.n = α.n
  below : Below G.heap.size G w
  lt : ∀ id b, α.get id = some b → id < α.n
  cell : ∀ id b, α.get id = some b → ∀ x ∈ b.cells, isCell x = true
  read : ∀ id b, α.get id = some b → ∀ (i : Nat) (x : Value), b.cells[i]? = some x → ∃ x', w.cell? ⟨m.b id, m.base id + i, none⟩ = some x' ∧ VR m x x'
  szs : ∀ id b, α.get id = some b → m.sz id = P.cellsOf b.elem
  ro : ∀ id b, α.get id = some b → b.own = false → m.b id < G.heap.size
  own : ∀ id b, α.get id = some b → b.own = true → G.heap.size ≤ m.b id ∧ m.b id < w.heap.size ∧ m.sz id = P.cellsOf b.elem ∧ m.base id + b.cells.length ≤ m.top id ∧
    ∀ o, o < m.top id → (w.cell? ⟨m.b id, o, none⟩).isSome = true ∧ w.frozen? ⟨m.b id, o, none⟩ = false
  apart : ∀ id id' b b', α.get id = some b → α.get id' = some b' → b.own = true → b'.own = true → m.b id = m.b id' → id = id'

/-- A new block. -/
def AM.push (m : AM) (b base top sz : Nat) : AM :=
  ⟨m.n + 1, fun i => if i = m.n then b else m.b i, fun i => if i = m.n then base else m.base i, fun i => if i = m.n then top else m.top i, fun i => if i = m.n then sz else m.sz i⟩
theorem AM.le_push (m : AM) (b base top sz : Nat) : m.le (m.push b base top sz) :=
  ⟨Nat.le_succ _, fun i h => if_neg (Nat.ne_of_lt h), fun i h => if_neg (Nat.ne_of_lt h), fun i h => if_neg (Nat.ne_of_lt h), fun i h => if_neg (Nat.ne_of_lt h)⟩

theorem frozen_alloc_old (w : World) (o : Obj) {a : Addr} (h : a.block < w.heap.size) : (w.alloc o).frozen? a = w.frozen? a :=
  World.frozen?_of_block (Below.heap_alloc w o a.block h)
theorem cell_alloc_old (w : World) (o : Obj) {a : Addr} (h : a.block < w.heap.size) : (w.alloc o).cell? a = w.cell? a :=
  World.cell?_of_block (Below.heap_alloc w o a.block h)
theorem cell_alloc_new (w : World) (c : Array Value) (e : TypeId) (i : Nat) : (w.alloc (.cells c e)).cell? ⟨w.heap.size, i, none⟩ = c[i]? := by
  unfold World.cell? World.alloc
  simp
theorem frozen_alloc_new (w : World) (c : Array Value) (e : TypeId) (i : Nat) : (w.alloc (.cells c e)).frozen? ⟨w.heap.size, i, none⟩ = false := by
  unfold World.frozen? World.alloc
  simp

theorem Rel.blk_lt {P : Program} {G : World} {m : AM} {α : AH} {w : World} (h : Rel P G m α w) {id : Nat} {b : ABlk} (hb : α.get id = some b) : m.b id < w.heap.size := by
  cases ho : b.own with
  | true => exact (h.own id b hb ho).2.1
  | false => exact Nat.lt_of_lt_of_le (h.ro id b hb ho) h.below.size

/-- Allocation of a row whose first cells are told; the rest is spare room. -/
theorem Rel.alloc {P : Program} {G : World} {m : AM} {α : AH} {w : World} (h : Rel P G m α w) (l : List Value) (c : Array Value) (e : TypeId)
    (hl : ∀ (i : Nat) (x : Value), l[i]? = some x → ∃ x', c[i]? = some x' ∧ VR m x x') (hle : l.length ≤ c.size) (hc : ∀ x ∈ l, isCell x = true) :
    Rel P G (m.push w.heap.size 0 c.size (P.cellsOf e)) (α.alloc ⟨l, e, true⟩) (w.alloc (.cells c e)) := by
  have hle' := AM.le_push m w.heap.size 0 c.size (P.cellsOf e)
  have hn := h.n
  have old : ∀ id b, (α.alloc ⟨l, e, true⟩).get id = some b → id ≠ α.n → α.get id = some b := fun id b hb hne => by rwa [AH.alloc_get_ne α _ hne] at hb
  have new : ∀ id b, (α.alloc ⟨l, e, true⟩).get id = some b → id = α.n → b = ⟨l, e, true⟩ := fun id b hb he => by subst he; rw [AH.alloc_get] at hb; exact (Option.some.inj hb).symm
  have mb : ∀ id, id ≠ α.n → (m.push w.heap.size 0 c.size (P.cellsOf e)).b id = m.b id := fun id hne => if_neg (by rw [hn]; exact hne)
  have mbase : ∀ id, id ≠ α.n → (m.push w.heap.size 0 c.size (P.cellsOf e)).base id = m.base id := fun id hne => if_neg (by rw [hn]; exact hne)
  have mtop : ∀ id, id ≠ α.n → (m.push w.heap.size 0 c.size (P.cellsOf e)).top id = m.top id := fun id hne => if_neg (by rw [hn]; exact hne)
  have msz : ∀ id, id ≠ α.n → (m.push w.heap.size 0 c.size (P.cellsOf e)).sz id = m.sz id := fun id hne => if_neg (by rw [hn]; exact hne)
  have nb : (m.push w.heap.size 0 c.size (P.cellsOf e)).b α.n = w.heap.size := if_pos hn.symm
  have nbase : (m.push w.heap.size 0 c.size (P.cellsOf e)).base α.n = 0 := if_pos hn.symm
  have ntop : (m.push w.heap.size 0 c.size (P.cellsOf e)).top α.n = c.size := if_pos hn.symm
  have nsz : (m.push w.heap.size 0 c.size (P.cellsOf e)).sz α.n = P.cellsOf e := if_pos hn.symm
  refine ⟨by simp [AM.push, hn], h.below.alloc h.below.size _, ?_, ?_, ?_, ?_, ?_, ?_, ?_⟩
  · intro id b hb
    by_cases he : id = α.n
    · simp [he]
    · have := h.lt id b (old id b hb he); simp; omega
  · intro id b hb x hx
    by_cases he : id = α.n
    · rw [new id b hb he] at hx; exact hc x hx
    · exact h.cell id b (old id b hb he) x hx
  · intro id b hb i x hx
    by_cases he : id = α.n
    · rw [new id b hb he] at hx
      obtain ⟨x', h1, h2⟩ := hl i x hx
      subst he
      rw [nb, nbase, Nat.zero_add]
      exact ⟨x', by rw [cell_alloc_new]; exact h1, h2.mono hle'⟩
    · obtain ⟨x', h1, h2⟩ := h.read id b (old id b hb he) i x hx
      rw [mb id he, mbase id he]
      exact ⟨x', by rw [cell_alloc_old w _ (h.blk_lt (old id b hb he))]; exact h1, h2.mono hle'⟩
  · intro id b hb
    by_cases he : id = α.n
    · rw [new id b hb he]; subst he; exact nsz
    · rw [msz id he]; exact h.szs id b (old id b hb he)
  · intro id b hb ho
    by_cases he : id = α.n
    · rw [new id b hb he] at ho; cases ho
    · rw [mb id he]; exact h.ro id b (old id b hb he) ho
  · intro id b hb ho
    by_cases he : id = α.n
    · have hb' := new id b hb he
      subst he; subst hb'
      rw [nb, nbase, ntop, nsz]
      refine ⟨h.below.size, by simp, rfl, by simpa using hle, fun o ho => ⟨?_, frozen_alloc_new w c e o⟩⟩
      rw [cell_alloc_new, Array.getElem?_eq_getElem ho]; rfl
    · obtain ⟨h1, h2, h3, h4, h5⟩ := h.own id b (old id b hb he) ho
      rw [mb id he, mbase id he, mtop id he, msz id he]
      refine ⟨h1, by simp; omega, h3, h4, fun o ho => ?_⟩
      rw [cell_alloc_old w _ h2, frozen_alloc_old w _ h2]; exact h5 o ho
  · intro id id' b b' hb hb' ho ho' heq
    by_cases he : id = α.n
    · by_cases he' : id' = α.n
      · omega
      · subst he
        rw [nb, mb id' he'] at heq
        have := (h.own id' b' (old id' b' hb' he') ho').2.1
        omega
    · by_cases he' : id' = α.n
      · subst he'
        rw [nb, mb id he] at heq
        have := (h.own id b (old id b hb he) ho).2.1
        omega
      · rw [mb id he, mb id' he'] at heq
        exact h.apart id id' b b' (old id b hb he) (old id' b' hb' he') ho ho' heq

theorem Rel.drew {P : Program} {G : World} {m : AM} {α : AH} {w : World} (h : Rel P G m α w) (k : Nat) : Rel P G m α { w with drawn := k } :=
  ⟨h.n, ⟨h.below.os, h.below.tape, h.below.output, h.below.size, h.below.block⟩, h.lt, h.cell, h.read, h.szs, h.ro, h.own, h.apart⟩

theorem Rel.kill {P : Program} {G : World} {m : AM} {α : AH} {w : World} (h : Rel P G m α w) (id : Nat) : Rel P G m (α.set id none) w := by
  have old : ∀ i b, (α.set id none).get i = some b → α.get i = some b := fun i b hb => by
    by_cases he : i = id
    · subst he; simp at hb
    · rwa [AH.set_get_ne _ _ he] at hb
  exact ⟨h.n, h.below, fun i b hb => h.lt i b (old i b hb), fun i b hb => h.cell i b (old i b hb), fun i b hb => h.read i b (old i b hb), fun i b hb => h.szs i b (old i b hb), fun i b hb => h.ro i b (old i b hb),
    fun i b hb => h.own i b (old i b hb), fun i j b c hb hc => h.apart i j b c (old i b hb) (old j c hc)⟩

theorem below_setCells {B : Nat} {a : World} (b : Nat) (hb : B ≤ b) : ∀ (vs : List Value) (o : Nat) (w : World), Below B a w → Below B a (w.setCells b o vs)
  | [], _, _, h => h
  | v :: vs, o, w, h => below_setCells b hb vs (o + 1) _ (h.setCell (p := ⟨b, o, none⟩) hb v)
theorem size_setCells (b : Nat) : ∀ (vs : List Value) (o : Nat) (w : World), (w.setCells b o vs).heap.size = w.heap.size
  | [], _, _ => rfl
  | v :: vs, o, w => by rw [World.setCells, size_setCells b vs]; simp [World.setCell]
theorem setCells_far (w : World) (b o : Nat) (vs : List Value) (a : Addr) (h : a.block ≠ b) : (w.setCells b o vs).cell? a = w.cell? a :=
  World.cell?_setCells_out b vs o w a fun e => absurd e h

/-- What stays when cells of one own block are written: all else. -/
theorem Rel.store {P : Program} {G : World} {m : AM} {α : AH} {w : World} (h : Rel P G m α w) {id : Nat} {b : ABlk} (hb : α.get id = some b) (ho : b.own = true)
    (off : Nat) (vs vs' : List Value) (hv : VRL m vs vs') (hc : ∀ x ∈ vs, isCell x = true) (hfit : off + vs.length ≤ b.cells.length) :
    Rel P G m (α.set id (some { b with cells := setL b.cells off vs })) (w.setCells (m.b id) (m.base id + off) vs') := by
  obtain ⟨o1, o2, o3, o4, o5⟩ := h.own id b hb ho
  have hfar : ∀ i c, α.get i = some c → i ≠ id → m.b i ≠ m.b id := fun i c hi hne he => by
    cases hoc : c.own with
    | true => exact hne (h.apart i id c b hi hb hoc ho he)
    | false => have := h.ro i c hi hoc; omega
  have old : ∀ i c, (α.set id (some { b with cells := setL b.cells off vs })).get i = some c → i ≠ id → α.get i = some c := fun i c hi hne => by rwa [AH.set_get_ne _ _ hne] at hi
  have new : ∀ c, (α.set id (some { b with cells := setL b.cells off vs })).get id = some c → c = { b with cells := setL b.cells off vs } := fun c hc => by
    rw [AH.set_get] at hc; exact (Option.some.inj hc).symm
  have hin := World.cell?_setCells_in (m.b id) vs' (m.base id + off) w (fun j hj => (o5 _ (by have := hv.1; omega)).1)
  refine ⟨h.n, below_setCells _ o1 vs' _ w h.below, ?_, ?_, ?_, ?_, ?_, ?_, ?_⟩
  · intro i c hi
    by_cases he : i = id
    · subst he; exact h.lt i b hb
    · exact h.lt i c (old i c hi he)
  · intro i c hi x hx
    by_cases he : i = id
    · subst he
      rw [new c hi] at hx
      obtain ⟨j, hj⟩ := List.mem_iff_getElem?.1 hx
      rw [get_setL vs _ _ _ hfit] at hj
      split at hj
      · exact hc x (List.mem_of_getElem? hj)
      · exact h.cell i b hb x (List.mem_of_getElem? hj)
    · exact h.cell i c (old i c hi he) x hx
  · intro i c hi j x hx
    by_cases he : i = id
    · subst he
      rw [new c hi] at hx
      simp only [get_setL vs _ _ _ hfit] at hx
      by_cases hj : off ≤ j ∧ j < off + vs.length
      · rw [if_pos hj] at hx
        obtain ⟨x', h1, h2⟩ := hv.2 _ x hx
        have hlt : j - off < vs'.length := (List.getElem?_eq_some_iff.1 h1).1
        refine ⟨x', ?_, h2⟩
        have := hin (j - off) hlt
        rw [show m.base i + off + (j - off) = m.base i + j from by omega] at this
        rw [this, ← h1, List.getElem?_eq_getElem hlt]
      · rw [if_neg hj] at hx
        obtain ⟨x', h1, h2⟩ := h.read i b hb j x hx
        refine ⟨x', ?_, h2⟩
        rw [World.cell?_setCells_out _ _ _ _ _ (fun _ _ => by have := hv.1; simp only; omega)]
        exact h1
    · obtain ⟨x', h1, h2⟩ := h.read i c (old i c hi he) j x hx
      exact ⟨x', by rw [setCells_far _ _ _ _ _ (hfar i c (old i c hi he) he)]; exact h1, h2⟩
  · intro i c hi
    by_cases he : i = id
    · subst he; rw [new c hi]; exact h.szs i b hb
    · exact h.szs i c (old i c hi he)
  · intro i c hi hoc
    by_cases he : i = id
    · subst he; rw [new c hi] at hoc; rw [ho] at hoc; cases hoc
    · exact h.ro i c (old i c hi he) hoc
  · intro i c hi hoc
    have key : ∀ i', (w.setCells (m.b id) (m.base id + off) vs').frozen? ⟨m.b i', 0, none⟩ = w.frozen? ⟨m.b i', 0, none⟩ := fun i' => World.frozen?_setCells _ _ _ _ _
    by_cases he : i = id
    · subst he
      rw [new c hi]
      refine ⟨o1, by rw [size_setCells]; exact o2, o3, by simpa [length_setL] using o4, fun o hlt => ⟨?_, ?_⟩⟩
      · exact World.isSome_setCells _ _ _ _ _ (o5 o hlt).1
      · rw [World.frozen?_setCells]; exact (o5 o hlt).2
    · obtain ⟨q1, q2, q3, q4, q5⟩ := h.own i c (old i c hi he) hoc
      refine ⟨q1, by rw [size_setCells]; exact q2, q3, q4, fun o hlt => ⟨?_, ?_⟩⟩
      · exact World.isSome_setCells _ _ _ _ _ (q5 o hlt).1
      · rw [World.frozen?_setCells]; exact (q5 o hlt).2
  · intro i j c d hi hj hoc hod heq
    have h1 : ∃ c', α.get i = some c' ∧ c'.own = true := by
      by_cases he : i = id
      · subst he; exact ⟨b, hb, ho⟩
      · exact ⟨c, old i c hi he, hoc⟩
    have h2 : ∃ c', α.get j = some c' ∧ c'.own = true := by
      by_cases he : j = id
      · subst he; exact ⟨b, hb, ho⟩
      · exact ⟨d, old j d hj he, hod⟩
    obtain ⟨c', a1, a2⟩ := h1
    obtain ⟨d', b1, b2⟩ := h2
    exact h.apart i j c' d' a1 b1 a2 b2 heq

/-- An append that stays in its block: the old id is gone, a new one has the block. -/
theorem Rel.grow {P : Program} {G : World} {m : AM} {α : AH} {w : World} (h : Rel P G m α w) {id : Nat} {b : ABlk} (hb : α.get id = some b) (ho : b.own = true)
    (off n0 o' : Nat) (vs vs' : List Value) (hv : VRL m vs vs') (hc : ∀ x ∈ vs, isCell x = true) (hoff : 0 < n0 → o' = m.base id + off) (h0 : off + n0 ≤ b.cells.length ∨ n0 = 0)
    (hfit : o' + n0 + vs.length ≤ m.top id) :
    Rel P G (m.push (m.b id) o' (m.top id) (m.sz id)) ((α.set id none).alloc ⟨(b.cells.drop off).take n0 ++ vs, b.elem, true⟩) (w.setCells (m.b id) (o' + n0) vs') := by
  obtain ⟨o1, o2, o3, o4, o5⟩ := h.own id b hb ho
  have hn := h.n
  have hid := h.lt id b hb
  have hle' := AM.le_push m (m.b id) o' (m.top id) (m.sz id)
  have hnn : ((α.set id none).alloc ⟨(b.cells.drop off).take n0 ++ vs, b.elem, true⟩).n = α.n + 1 := rfl
  have old : ∀ i c, ((α.set id none).alloc ⟨(b.cells.drop off).take n0 ++ vs, b.elem, true⟩).get i = some c → i ≠ α.n → α.get i = some c ∧ i ≠ id := fun i c hi hne => by
    rw [AH.alloc_get_ne _ _ (by simpa using hne)] at hi
    by_cases he : i = id
    · subst he; simp at hi
    · rw [AH.set_get_ne _ _ he] at hi; exact ⟨hi, he⟩
  have new : ∀ c, ((α.set id none).alloc ⟨(b.cells.drop off).take n0 ++ vs, b.elem, true⟩).get α.n = some c → c = ⟨(b.cells.drop off).take n0 ++ vs, b.elem, true⟩ := fun c hi => by
    rw [show α.n = (α.set id none).n from rfl, AH.alloc_get] at hi; exact (Option.some.inj hi).symm
  have mb : ∀ i, i ≠ α.n → (m.push (m.b id) o' (m.top id) (m.sz id)).b i = m.b i := fun i hne => if_neg (by rw [hn]; exact hne)
  have mbase : ∀ i, i ≠ α.n → (m.push (m.b id) o' (m.top id) (m.sz id)).base i = m.base i := fun i hne => if_neg (by rw [hn]; exact hne)
  have mtop : ∀ i, i ≠ α.n → (m.push (m.b id) o' (m.top id) (m.sz id)).top i = m.top i := fun i hne => if_neg (by rw [hn]; exact hne)
  have msz : ∀ i, i ≠ α.n → (m.push (m.b id) o' (m.top id) (m.sz id)).sz i = m.sz i := fun i hne => if_neg (by rw [hn]; exact hne)
  have nb : (m.push (m.b id) o' (m.top id) (m.sz id)).b α.n = m.b id := if_pos hn.symm
  have nbase : (m.push (m.b id) o' (m.top id) (m.sz id)).base α.n = o' := if_pos hn.symm
  have ntop : (m.push (m.b id) o' (m.top id) (m.sz id)).top α.n = m.top id := if_pos hn.symm
  have nsz : (m.push (m.b id) o' (m.top id) (m.sz id)).sz α.n = m.sz id := if_pos hn.symm
  have hfar : ∀ i c, α.get i = some c → i ≠ id → m.b i ≠ m.b id := fun i c hi hne he => by
    cases hoc : c.own with
    | true => exact hne (h.apart i id c b hi hb hoc ho he)
    | false => have := h.ro i c hi hoc; omega
  have hin := World.cell?_setCells_in (m.b id) vs' (o' + n0) w (fun j hj => (o5 _ (by have := hv.1; omega)).1)
  have hlen0 : ((b.cells.drop off).take n0).length = n0 := by
    rcases h0 with h0 | h0
    · simp; omega
    · simp [h0]
  refine ⟨by rw [hnn]; simp [AM.push, hn], below_setCells _ o1 vs' _ w h.below, ?_, ?_, ?_, ?_, ?_, ?_, ?_⟩
  · intro i c hi
    rw [hnn]
    by_cases he : i = α.n
    · omega
    · have := h.lt i c (old i c hi he).1; omega
  · intro i c hi x hx
    by_cases he : i = α.n
    · subst he
      rw [new c hi] at hx
      rcases List.mem_append.1 hx with hx | hx
      · exact h.cell id b hb x (List.mem_of_mem_drop (List.mem_of_mem_take hx))
      · exact hc x hx
    · exact h.cell i c (old i c hi he).1 x hx
  · intro i c hi j x hx
    by_cases he : i = α.n
    · subst he
      rw [new c hi] at hx
      rw [nb, nbase]
      simp only at hx
      rw [List.getElem?_append, hlen0] at hx
      by_cases hj : j < n0
      · rw [if_pos hj, List.getElem?_take, if_pos hj, List.getElem?_drop] at hx
        obtain ⟨x', h1, h2⟩ := h.read id b hb _ x hx
        refine ⟨x', ?_, h2.mono hle'⟩
        rw [World.cell?_setCells_out _ _ _ _ _ (fun _ _ => by simp only; omega)]
        rw [show o' + j = m.base id + (off + j) from by have := hoff (by omega); omega]
        exact h1
      · rw [if_neg hj] at hx
        obtain ⟨x', h1, h2⟩ := hv.2 _ x hx
        have hlt : j - n0 < vs'.length := (List.getElem?_eq_some_iff.1 h1).1
        refine ⟨x', ?_, h2.mono hle'⟩
        have := hin (j - n0) hlt
        rw [show o' + n0 + (j - n0) = o' + j from by omega] at this
        rw [this, ← h1, List.getElem?_eq_getElem hlt]
    · obtain ⟨a1, a2⟩ := old i c hi he
      obtain ⟨x', h1, h2⟩ := h.read i c a1 j x hx
      rw [mb i he, mbase i he]
      exact ⟨x', by rw [setCells_far _ _ _ _ _ (hfar i c a1 a2)]; exact h1, h2.mono hle'⟩
  · intro i c hi
    by_cases he : i = α.n
    · subst he; rw [new c hi, nsz]; exact o3
    · rw [msz i he]; exact h.szs i c (old i c hi he).1
  · intro i c hi hoc
    by_cases he : i = α.n
    · subst he; rw [new c hi] at hoc; cases hoc
    · rw [mb i he]; exact h.ro i c (old i c hi he).1 hoc
  · intro i c hi hoc
    by_cases he : i = α.n
    · subst he
      rw [new c hi, nb, nbase, ntop, nsz]
      refine ⟨o1, by rw [size_setCells]; exact o2, o3, by rw [List.length_append, hlen0]; omega, fun o hlt => ⟨?_, ?_⟩⟩
      · exact World.isSome_setCells _ _ _ _ _ (o5 o hlt).1
      · rw [World.frozen?_setCells]; exact (o5 o hlt).2
    · obtain ⟨a1, a2⟩ := old i c hi he
      obtain ⟨q1, q2, q3, q4, q5⟩ := h.own i c a1 hoc
      rw [mb i he, mbase i he, mtop i he, msz i he]
      refine ⟨q1, by rw [size_setCells]; exact q2, q3, q4, fun o hlt => ⟨?_, ?_⟩⟩
      · exact World.isSome_setCells _ _ _ _ _ (q5 o hlt).1
      · rw [World.frozen?_setCells]; exact (q5 o hlt).2
  · intro i j c d hi hj hoc hod heq
    by_cases he : i = α.n
    · by_cases he' : j = α.n
      · omega
      · obtain ⟨a1, a2⟩ := old j d hj he'
        subst he
        rw [nb, mb j he'] at heq
        exact absurd heq.symm (hfar j d a1 a2)
    · obtain ⟨a1, a2⟩ := old i c hi he
      by_cases he' : j = α.n
      · subst he'
        rw [nb, mb i he] at heq
        exact absurd heq (hfar i c a1 a2)
      · obtain ⟨b1, b2⟩ := old j d hj he'
        rw [mb i he, mb j he'] at heq
        exact h.apart i j c d a1 b1 hoc hod heq

end Go.Lay
