/- The layer, part 2: what operations do to abstract memory, and that the machine does the same. -/
import Derived.Test.YtggkeldedennfaaLa
import Derived.Great.BuildSlice
set_option linter.unusedVariables false
set_option linter.unusedSimpArgs false
namespace Go.Lay
open Go Go.RowKit

abbrev AS := Nat → Value
def upd (s : AS) (d : Nat) (v : Value) : AS := fun i => if i = d then v else s i
theorem upd_eq (s : AS) (d : Nat) (v : Value) (i : Nat) : upd s d v i = if i = d then v else s i := rfl

def ev (s : AS) : Operand → Value
  | .tmp t => s t
  | .const v => if flatD v then v else junk
  | .global _ => junk
  | .func f => .func (.func f) #[] #[]

theorem VR.flatD {m : AM} {v : Value} (h : flatD v = true) : VR m v v := by
  cases v <;> first
    | exact .fl h
    | (rename_i cs
       refine .agg rfl fun i => ?_
       rcases Nat.lt_or_ge i cs.size with hi | hi
       · rw [Array.getElem?_eq_getElem hi]
         simp only [Go.Lay.flatD, List.all_eq_true, Bool.and_eq_true] at h
         exact .fl (h cs[i] (Array.mem_toList_iff.2 (Array.getElem_mem hi))).1
       · rw [Array.getElem?_eq_none hi]; exact VR.undef m)

theorem VR.eq_flatD {m : AM} {v v' : Value} (h : VR m v v') (hf : Go.Lay.flatD v = true) : v' = v := by
  cases h with
  | agg hs h =>
    rename_i cs cs'
    simp only [Go.Lay.flatD, List.all_eq_true, Bool.and_eq_true] at hf
    congr 1
    apply Array.ext hs.symm
    intro i h1 h2
    have := h i
    rw [Array.getElem?_eq_getElem h1, Array.getElem?_eq_getElem h2] at this
    exact this.eq_flat (hf _ (Array.mem_toList_iff.2 (Array.getElem_mem h2))).1
  | jk v => exact absurd hf (by simp [Go.Lay.flatD, Go.Lay.flat, junk])
  | fl h => rfl
  | ptr h => exact absurd hf (by simp [Go.Lay.flatD, Go.Lay.flat])
  | sl h => exact absurd hf (by simp [Go.Lay.flatD, Go.Lay.flat])
  | iface h => exact absurd hf (by simp [Go.Lay.flatD, Go.Lay.flat])
  | tuple hs h => exact (VR.tuple hs h).eq_flat hf
  | func a b c d => exact (VR.func a b c d).eq_flat hf

structure SR (m : AM) (N : Nat) (s : AS) (a : Act) : Prop where
  size : a.tmps.size = N
  defers : a.defers = []
  t : ∀ i : Nat, VR m (s i) (a.tmps[i]?.getD undef)

theorem SR.mono {m m' : AM} (hm : m.le m') {N : Nat} {s : AS} {a : Act} (h : SR m N s a) : SR m' N s a := ⟨h.size, h.defers, fun i => (h.t i).mono hm⟩
theorem SR.put {m : AM} {N : Nat} {s : AS} {a : Act} (h : SR m N s a) {d : Nat} (hd : d < N) {v v' : Value} (hv : VR m v v') : SR m N (upd s d v) (a.put (some d) v') := by
  refine ⟨by simp [Act.put, h.size], h.defers, fun i => ?_⟩
  simp only [Act.put, upd]
  by_cases hi : i = d
  · subst hi; rw [if_pos rfl, Array.getElem?_setIfInBounds_self_of_lt (by rw [h.size]; exact hd)]; exact hv
  · rw [if_neg hi, Array.getElem?_setIfInBounds_ne (Ne.symm hi)]; exact h.t i
theorem SR.ev {m : AM} {N : Nat} {s : AS} {a : Act} (h : SR m N s a) (x : Operand) : VR m (ev s x) (a.eval x) := by
  cases x with
  | tmp t => simpa [Go.Lay.ev, Act.eval] using h.t t
  | const v =>
    simp only [Go.Lay.ev, Act.eval]
    split
    · rename_i hf; exact VR.flatD hf
    · exact .jk _
  | global g => exact .jk _
  | func f => exact .fl rfl

/-! ### what is asked of types -/
def sizeA (P : Program) (t : TypeId) : Option Nat := (P.info? t).map (·.size)
def bytesA (P : Program) (t : TypeId) : Nat := P.bytesOf t
def zeroA (P : Program) (t : TypeId) : Option Value := (P.info? t).bind (·.zero)
def aggA (P : Program) (t : TypeId) : Option Bool := (P.underlying t).map fun | .struct _ | .array _ _ => true | _ => false
theorem run_sizeA {P : Program} {t : TypeId} {n : Nat} (h : sizeA P t = some n) (w : World) : (sizeOf t).run P w = .ok n w := by
  unfold sizeA at h
  cases hi : P.info? t with
  | none => simp [hi] at h
  | some i => simp [hi] at h; subst h; simp [sizeOf, typeInfo, hi]
theorem cellsOf_sizeA {P : Program} {t : TypeId} {n : Nat} (h : sizeA P t = some n) : P.cellsOf t = n := by simp only [Program.cellsOf]; unfold sizeA at h; rw [h]; rfl
theorem run_aggA {P : Program} {t : TypeId} {b : Bool} (h : aggA P t = some b) (w : World) : (isAgg t).run P w = .ok b w := by
  unfold aggA at h
  cases hu : P.underlying t with
  | none => simp [hu] at h
  | some d => simp [hu] at h; subst h; simp [isAgg, run_underlying hu]; cases d <;> simp
theorem run_zeroA {P : Program} {t : TypeId} {z : Value} (h : zeroA P t = some z) (w : World) : (zeroValue t).run P w = .ok z w := by
  unfold zeroA at h
  cases hi : P.info? t with
  | none => simp [hi] at h
  | some i => simp [hi] at h; simp [zeroValue, typeInfo, hi, h]

/-! ### reading and writing -/
def aload (P : Program) (t : TypeId) (v : Value) (α : AH) : Option Value :=
  match v with
  | .pointer (some ⟨id, off, none⟩) =>
    match α.get id with
    | some b =>
      match aggA P t with
      | some false => b.cells[off]?
      | some true => match sizeA P t with
        | some n => if off + n ≤ b.cells.length then some (.agg ((b.cells.drop off).take n).toArray) else none
        | none => none
      | none => none
    | none => none
  | _ => none

theorem addr_add (b o n : Nat) : (⟨b, o, none⟩ : Addr).add n = ⟨b, o + n, none⟩ := by unfold Addr.add; split <;> simp_all

theorem run_load_cell {P : Program} {w : World} {a : Addr} {v : Value} (h : w.cell? a = some v) : (load a).run P w = .ok v w := by
  simp [load, Sem.run, h]

theorem VR.ptr_inv {m : AM} {id off : Nat} {v' : Value} (h : VR m (.pointer (some ⟨id, off, none⟩)) v') : id < m.n ∧ v' = .pointer (some ⟨m.b id, m.base id + off, none⟩) := by
  cases h with
  | fl h => simp [Go.Lay.flat] at h
  | ptr h => exact ⟨h, rfl⟩

theorem load_sound {P : Program} {G : World} {m : AM} {α : AH} {w : World} (h : Rel P G m α w) {t : TypeId} {p p' v : Value} (hp : VR m p p') (hl : aload P t p α = some v) :
    ∃ v', (Instr.loadAt t p').run P w = .ok v' w ∧ VR m v v' := by
  unfold aload at hl
  split at hl
  · rename_i id off
    obtain ⟨hid, rfl⟩ := hp.ptr_inv
    split at hl
    · rename_i b hb
      split at hl
      · rename_i hagg
        obtain ⟨v', h1, h2⟩ := h.read id b hb off v hl
        exact ⟨v', by simp [Instr.loadAt, Instr.sureAddr, loadVar, run_aggA hagg, run_load_cell h1, h1], h2⟩
      · rename_i hagg
        split at hl
        · rename_i n hn
          split at hl
          · rename_i hfit
            injection hl with hl
            subst hl
            have hlen : ((b.cells.drop off).take n).length = n := by simp; omega
            have hex : ∀ j : Nat, ∃ x', j < n → w.cell? ⟨m.b id, m.base id + off + j, none⟩ = some x' ∧ VR m ((b.cells.drop off).take n)[j]?.get! x' := fun j => by
              by_cases hj : j < n
              · obtain ⟨x', h1, h2⟩ := h.read id b hb (off + j) b.cells[off + j] (List.getElem?_eq_getElem (by omega))
                refine ⟨x', fun _ => ⟨by rw [Nat.add_assoc]; exact h1, ?_⟩⟩
                rw [List.getElem?_take, if_pos hj, List.getElem?_drop, List.getElem?_eq_getElem (by omega)]
                exact h2
              · exact ⟨undef, fun hc => absurd hc hj⟩
            obtain ⟨f, hf⟩ := Classical.axiomOfChoice hex
            have hrun := run_loadCells (P := P) w ⟨m.b id, m.base id + off, none⟩ n f (fun j hj => by rw [addr_add]; exact (hf j hj).1)
            refine ⟨.agg ((List.range n).map f).toArray, ?_, ?_⟩
            · simp [Instr.loadAt, Instr.sureAddr, loadVar, run_aggA hagg, run_sizeA hn, hrun]
            · refine VRL.agg ⟨by simp; omega, fun i x hx => ?_⟩
              have hi : i < n := by have := (List.getElem?_eq_some_iff.1 hx).1; omega
              refine ⟨f i, by simp [hi], ?_⟩
              have := (hf i hi).2
              rw [hx] at this
              exact this
          · cases hl
        · cases hl
      · cases hl
    · cases hl
  · cases hl

def astore (P : Program) (t : TypeId) (p v : Value) (α : AH) : Option AH :=
  match p with
  | .pointer (some ⟨id, off, none⟩) =>
    match α.get id with
    | some b => if b.own = true ∧ (cellsL v).all isCell = true ∧ sizeA P t = some (cellsL v).length ∧ off + (cellsL v).length ≤ b.cells.length then
        some (α.set id (some { b with cells := setL b.cells off (cellsL v) })) else none
    | none => none
  | _ => none

theorem store_sound {P : Program} {G : World} {m : AM} {α α' : AH} {w : World} (h : Rel P G m α w) {t : TypeId} {p p' v v' : Value} (hp : VR m p p') (hv : VR m v v') (hl : astore P t p v α = some α') :
    ∃ w', (Instr.storeAt t p' v').run P w = .ok () w' ∧ Rel P G m α' w' := by
  unfold astore at hl
  split at hl
  · rename_i id off
    obtain ⟨hid, rfl⟩ := hp.ptr_inv
    split at hl
    · rename_i b hb
      split at hl
      · rename_i hc
        obtain ⟨ho, hall, hsz, hfit⟩ := hc
        injection hl with hl
        subst hl
        have hvl := hv.cells hall
        have hall' : ∀ x ∈ cellsL v', x.oneCell' = true := fun x hx => by
          obtain ⟨i, hi⟩ := List.mem_iff_getElem?.1 hx
          have hlt : i < (cellsL v).length := by have := (List.getElem?_eq_some_iff.1 hi).1; have := hvl.1; omega
          obtain ⟨x', h1, h2⟩ := hvl.2 i _ (List.getElem?_eq_getElem hlt)
          rw [hi] at h1
          injection h1 with h1
          subst h1
          exact isCell_one (h2.one (List.all_eq_true.1 hall _ (List.getElem_mem hlt)))
        obtain ⟨o1, o2, o3, o4, o5⟩ := h.own id b hb ho
        refine ⟨w.setCells (m.b id) (m.base id + off) (cellsL v'), ?_, h.store hb ho off _ _ hvl (fun x hx => List.all_eq_true.1 hall x hx) hfit⟩
        have hrun := run_storeCells_cells (P := P) (m.b id) (m.base id + off) (cellsL v') 0 w (fun j hj => (o5 _ (by have := hvl.1; omega)).1) (fun j hj => (o5 _ (by have := hvl.1; omega)).2) hall'
        have hs' : v'.cells.size = (cellsL v).length := by rw [hvl.1]; simp [cellsL]
        simp only [Instr.storeAt, Instr.sureAddr, storeVar, Sem.run_bind, Sem.run_pure, Result.andThen_ok, run_sizeA hsz, hs', ne_eq, not_true_eq_false, if_false]
        exact hrun
      · cases hl
    · cases hl
  · cases hl

/-! ### addresses -/
def afieldAddr (P : Program) (t : TypeId) (v : Value) (f : Nat) : Option Value :=
  match P.underlying t, v with
  | some (.struct fs), .pointer (some ⟨id, off, none⟩) =>
    match fs[f]? with
    | some fd => match sizeA P fd.type with
      | some (_ + 1) => some (.pointer (some ⟨id, off + fd.offset, none⟩))
      | _ => none
    | none => none
  | _, _ => none

theorem fieldAddr_sound {P : Program} {m : AM} {t : TypeId} {v v' r : Value} (hv : VR m v v') {f : Nat} (hl : afieldAddr P t v f = some r) :
    ∃ r', (∀ w, (Instr.fieldAt t v' f).run P w = .ok r' w) ∧ VR m r r' := by
  unfold afieldAddr at hl
  split at hl
  · rename_i fs id off hu
    obtain ⟨hid, rfl⟩ := hv.ptr_inv
    split at hl
    · rename_i fd hfd
      split at hl
      · rename_i k hk
        injection hl with hl
        subst hl
        refine ⟨.pointer (some ⟨m.b id, m.base id + off + fd.offset, none⟩), ?_, ?_⟩
        · intro w; simp [Instr.fieldAt, run_underlying hu, hfd, Instr.sureAddr, fieldPlace, run_sizeA hk, addr_add]
        · rw [Nat.add_assoc]; exact .ptr hid
      · cases hl
    · cases hl
  · cases hl

theorem VR.sl_inv {m : AM} {id off len c : Nat} {v' : Value} (h : VR m (.slice (some ⟨id, off, none⟩) len c) v') :
    id < m.n ∧ ∃ c' o', v' = .slice (some ⟨m.b id, o', none⟩) len c' ∧ (0 < len → o' = m.base id + off) ∧ len ≤ c' ∧ o' + c' * m.sz id ≤ m.top id := by
  cases h with
  | fl h => simp [Go.Lay.flat] at h
  | sl h ho hl ht => exact ⟨h, _, _, rfl, ho, hl, ht⟩

def aindexAddr (P : Program) (t : TypeId) (x i : Value) : Option Value :=
  match i with
  | .int _ n =>
    match P.underlying t, x with
    | some (.slice e), .slice (some ⟨id, off, none⟩) len _ => if 0 ≤ n ∧ n < (len : Int) then (sizeA P e).map fun sz => .pointer (some ⟨id, off + n.toNat * sz, none⟩) else none
    | some (.array len e), .pointer (some ⟨id, off, none⟩) => if 0 ≤ n ∧ n < (len : Int) then (sizeA P e).map fun sz => .pointer (some ⟨id, off + n.toNat * sz, none⟩) else none
    | _, _ => none
  | _ => none

theorem indexAddr_sound {P : Program} {m : AM} {t : TypeId} {x x' i i' r : Value} (hx : VR m x x') (hi : VR m i i') (hl : aindexAddr P t x i = some r) :
    ∃ r', (∀ w, (Instr.indexAt t x' i').run P w = .ok r' w) ∧ VR m r r' := by
  unfold aindexAddr at hl
  split at hl
  · rename_i k n
    obtain rfl := hi.eq_flat rfl
    split at hl
    · rename_i e id off len c hu
      obtain ⟨hid, c', o', rfl, ho, hle, htop⟩ := hx.sl_inv
      split at hl
      · rename_i hn
        cases hs : sizeA P e with
        | none => simp [hs] at hl
        | some sz =>
          simp [hs] at hl
          subst hl
          have := ho (by omega)
          subst this
          refine ⟨.pointer (some ⟨m.b id, m.base id + (off + n.toNat * sz), none⟩), fun w => ?_, .ptr hid⟩
          simp [Instr.indexAt, asIntOf, run_underlying hu, hn, run_sizeA hs, addr_add, Nat.add_assoc]
      · cases hl
    · rename_i len e id off hu
      obtain ⟨hid, rfl⟩ := hx.ptr_inv
      split at hl
      · rename_i hn
        cases hs : sizeA P e with
        | none => simp [hs] at hl
        | some sz =>
          simp [hs] at hl
          subst hl
          refine ⟨.pointer (some ⟨m.b id, m.base id + (off + n.toNat * sz), none⟩), fun w => ?_, .ptr hid⟩
          simp [Instr.indexAt, asIntOf, run_underlying hu, hn, run_sizeA hs, addr_add, Nat.add_assoc, Instr.sureAddr]
      · cases hl
    · cases hl
  · cases hl

/-! ### slices of slices and of strings -/
def abound (d : Nat) : Option Value → Option Nat
  | none => some d
  | some (.int _ n) => if 0 ≤ n then some n.toNat else none
  | _ => none
def aslice (P : Program) (t : TypeId) (x : Value) (lo hi mx : Option Value) (α : AH) : Option Value :=
  match P.underlying t, x with
  | some .string, .string s =>
    match mx, abound s.size hi, abound 0 lo with
    | none, some h, some l => if h ≤ s.size ∧ l ≤ h then some (.string (s.extract l h)) else none
    | _, _, _ => none
  | some (.slice e), .slice (some ⟨id, off, none⟩) len _ =>
    match abound len mx, abound len hi, abound 0 lo, sizeA P e with
    | some q, some h, some l, some sz => if (α.get id).map (fun b => P.cellsOf b.elem) = some sz ∧ q ≤ len ∧ h ≤ q ∧ l ≤ h ∧ (mx.isSome = true → hi.isSome = true) then some (.slice (some ⟨id, off + l * sz, none⟩) (h - l) 0) else none
    | _, _, _, _ => none
  | some (.slice e), .slice none 0 0 =>
    match abound 0 mx, abound 0 hi, abound 0 lo, sizeA P e with
    | some 0, some 0, some 0, some _ => if mx.isSome = true → hi.isSome = true then some (.slice none 0 0) else none
    | _, _, _, _ => none
  | _, _ => none

theorem abound_rel {m : AM} {d n : Nat} {o o' : Option Value} (h : abound d o = some n) (hr : ∀ v, o = some v → ∃ v', o' = some v' ∧ VR m v v') (hn : o = none → o' = none) :
    (o = none ∧ o' = none ∧ n = d) ∨ ∃ (k : IntKind), o = some (.int k (n : Int)) ∧ o' = some (.int k (n : Int)) := by
  cases o with
  | none => exact .inl ⟨rfl, hn rfl, by simpa [abound] using h.symm⟩
  | some v =>
    obtain ⟨v', rfl, hv⟩ := hr v rfl
    cases v <;> simp [abound] at h
    rename_i k i
    obtain ⟨h0, rfl⟩ := h
    obtain rfl := hv.eq_flat rfl
    exact .inr ⟨k, by rw [Int.toNat_of_nonneg h0], by rw [Int.toNat_of_nonneg h0]⟩

theorem run_sliceBound_in {P : Program} (w : World) (k : IntKind) (n y : Nat) (code : BoundsCode) (h : n ≤ y) : (Instr.sliceBound (.int k (n : Int)) y code).run P w = .ok n w := by
  simp [Instr.sliceBound, asIntOf, h]

theorem sliceBounds_run {P : Program} (w : World) (b : Bool) (len cap : Nat) (lo hi mx : Option Value) (l h q : Nat) (dq : Nat)
    (h1 : (mx = none ∧ q = dq) ∨ ∃ k : IntKind, mx = some (.int k (q : Int))) (h2 : (hi = none ∧ h = len) ∨ ∃ k : IntKind, hi = some (.int k (h : Int))) (h3 : (lo = none ∧ l = 0) ∨ ∃ k : IntKind, lo = some (.int k (l : Int)))
    (hq : q ≤ cap) (hh : h ≤ q) (hl : l ≤ h) (hm : mx.isSome = true → hi.isSome = true) :
    (Instr.sliceBounds b len cap lo hi mx).run P w = .ok (l, h, if mx.isSome then q else cap) w := by
  unfold Instr.sliceBounds
  rcases h1 with ⟨rfl, rfl⟩ | ⟨k1, rfl⟩
  · rcases h2 with ⟨rfl, rfl⟩ | ⟨k2, rfl⟩ <;> rcases h3 with ⟨rfl, rfl⟩ | ⟨k3, rfl⟩ <;> simp [run_sliceBound_in, hl, Nat.le_trans hh hq]
  · rcases h2 with ⟨rfl, rfl⟩ | ⟨k2, rfl⟩
    · simp at hm
    · rcases h3 with ⟨rfl, rfl⟩ | ⟨k3, rfl⟩ <;> simp [run_sliceBound_in, hl, hq, hh]

theorem slice_sound {P : Program} {G : World} {m : AM} {α : AH} {w : World} (H : Rel P G m α w) {t : TypeId} {x x' r : Value} {lo hi mx lo' hi' mx' : Option Value} (hx : VR m x x')
    (k1 : ∀ v, lo = some v → ∃ v', lo' = some v' ∧ VR m v v') (k1n : lo = none → lo' = none) (k2 : ∀ v, hi = some v → ∃ v', hi' = some v' ∧ VR m v v') (k2n : hi = none → hi' = none)
    (k3 : ∀ v, mx = some v → ∃ v', mx' = some v' ∧ VR m v v') (k3n : mx = none → mx' = none)
    (hl : aslice P t x lo hi mx α = some r) :
    ∃ r', (∀ w, (Instr.sliceAt t x' lo' hi' mx').run P w = .ok r' w) ∧ VR m r r' := by
  unfold aslice at hl
  split at hl
  · rename_i s hu
    obtain rfl := hx.eq_flat rfl
    split at hl
    · rename_i h l hh hlo
      split at hl
      · rename_i hc
        injection hl with hl
        subst hl
        have b2 := abound_rel hh k2 k2n
        have b1 := abound_rel hlo k1 k1n
        obtain rfl := k3n rfl
        refine ⟨.string (s.extract l h), fun w => ?_, .fl rfl⟩
        have hrun := sliceBounds_run (P := P) w false s.size s.size lo' hi' none l h s.size s.size (.inl ⟨rfl, rfl⟩) (b2.imp (fun z => ⟨z.2.1, z.2.2⟩) fun ⟨k, _, z⟩ => ⟨k, z⟩)
          (b1.imp (fun z => ⟨z.2.1, z.2.2⟩) fun ⟨k, _, z⟩ => ⟨k, z⟩) (Nat.le_refl _) hc.1 hc.2 (by simp)
        simp [Instr.sliceAt, Instr.slice, run_underlying hu, hrun]
      · cases hl
    · cases hl
  · rename_i e id off len c hu
    obtain ⟨hid, c', o', rfl, ho, hle, htop⟩ := hx.sl_inv
    split at hl
    · rename_i q h l sz hq hh hlo hs
      split at hl
      · rename_i hc
        obtain ⟨q0, q1, q2, q3, q4⟩ := hc
        injection hl with hl
        subst hl
        have b3 := abound_rel hq k3 k3n
        have b2 := abound_rel hh k2 k2n
        have b1 := abound_rel hlo k1 k1n
        have hm : mx'.isSome = true → hi'.isSome = true := fun hm => by
          rcases b3 with ⟨_, rfl, _⟩ | ⟨k, rfl, _⟩
          · cases hm
          · have := q4 rfl
            rcases b2 with ⟨rfl, _, _⟩ | ⟨k', _, rfl⟩
            · cases this
            · rfl
        have hrun := fun w => sliceBounds_run (P := P) w true len c' lo' hi' mx' l h q len (b3.imp (fun z => ⟨z.2.1, z.2.2⟩) fun ⟨k, _, z⟩ => ⟨k, z⟩) (b2.imp (fun z => ⟨z.2.1, z.2.2⟩) fun ⟨k, _, z⟩ => ⟨k, z⟩)
          (b1.imp (fun z => ⟨z.2.1, z.2.2⟩) fun ⟨k, _, z⟩ => ⟨k, z⟩) (by omega) q2 q3 hm
        have hszm : m.sz id = sz := by
          cases hb : α.get id with
          | none => simp [hb] at q0
          | some b => simp [hb] at q0; rw [H.szs id b hb, q0]
        generalize hM : (if mx'.isSome = true then q else c') = M at hrun
        have hMl : l ≤ M ∧ M ≤ c' ∧ h ≤ M := by rw [← hM]; split <;> omega
        have key : ∀ w, (Instr.sliceAt t (.slice (some ⟨m.b id, o', none⟩) len c') lo' hi' mx').run P w = .ok (.slice (if M = l then some ⟨m.b id, o', none⟩ else some ⟨m.b id, o' + l * sz, none⟩) (h - l) (M - l)) w := fun w => by
          simp [Instr.sliceAt, Instr.slice, run_underlying hu, hrun, run_sizeA hs, addr_add]
        refine ⟨_, key, ?_⟩
        by_cases hML : M = l
        · rw [if_pos hML]
          have h0 : h - l = 0 := by omega
          rw [h0]
          exact .sl hid (fun hp => absurd hp (by omega)) (by omega) (by rw [hML, Nat.sub_self, Nat.zero_mul]; exact Nat.le_trans (Nat.le_add_right _ _) htop)
        · rw [if_neg hML]
          refine .sl hid (fun hp => ?_) (by omega) ?_
          · have := ho (by omega); omega
          · rw [hszm] at htop ⊢
            have : l * sz + (M - l) * sz = M * sz := by rw [← Nat.add_mul]; congr 1; omega
            have h2 : M * sz ≤ c' * sz := Nat.mul_le_mul_right _ hMl.2.1
            omega
      · cases hl
    · cases hl
  · rename_i e hu
    obtain rfl := hx.eq_flat rfl
    split at hl
    · rename_i sz hq hh hlo hs
      split at hl
      · rename_i q4
        injection hl with hl
        subst hl
        have b3 := abound_rel hq k3 k3n
        have b2 := abound_rel hh k2 k2n
        have b1 := abound_rel hlo k1 k1n
        have hm : mx'.isSome = true → hi'.isSome = true := fun hm => by
          rcases b3 with ⟨_, rfl, _⟩ | ⟨k, rfl, _⟩
          · cases hm
          · have := q4 rfl
            rcases b2 with ⟨rfl, _, _⟩ | ⟨k', _, rfl⟩
            · cases this
            · rfl
        have hrun := fun w => sliceBounds_run (P := P) w true 0 0 lo' hi' mx' 0 0 0 0 (b3.imp (fun z => ⟨z.2.1, z.2.2⟩) fun ⟨k, _, z⟩ => ⟨k, z⟩) (b2.imp (fun z => ⟨z.2.1, z.2.2⟩) fun ⟨k, _, z⟩ => ⟨k, z⟩)
          (b1.imp (fun z => ⟨z.2.1, z.2.2⟩) fun ⟨k, _, z⟩ => ⟨k, z⟩) (by omega) (by omega) (by omega) hm
        refine ⟨.slice none 0 0, fun w => ?_, .fl rfl⟩
        simp [Instr.sliceAt, Instr.slice, run_underlying hu, hrun, run_sizeA hs]
      · cases hl
    · cases hl
  · cases hl

end Go.Lay
