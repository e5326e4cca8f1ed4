/- The layer, part 3: what is made: boxes, structs, literals, make, append, copy. -/
import Derived.Test.YtggkeldedennfaaLb
import Derived.Laws.MakeOwn
import Derived.IntWalk
set_option linter.unusedVariables false
set_option linter.unusedSimpArgs false
namespace Go.Lay
open Go Go.RowKit

theorem push_new {m : AM} {α : AH} (hn : m.n = α.n) (b base top sz : Nat) : (m.push b base top sz).b α.n = b ∧ (m.push b base top sz).base α.n = base ∧ (m.push b base top sz).top α.n = top ∧ (m.push b base top sz).sz α.n = sz ∧ α.n < (m.push b base top sz).n :=
  ⟨if_pos hn.symm, if_pos hn.symm, if_pos hn.symm, if_pos hn.symm, by simp [AM.push, hn]⟩

/-! ### boxes -/
def abox (e : TypeId) (v : Value) (α : AH) : Option (Value × AH) :=
  if (cellsL v).all isCell = true then some (.pointer (some ⟨α.n, 0, none⟩), α.alloc ⟨cellsL v, e, true⟩) else none

theorem box_sound {P : Program} {G : World} {m : AM} {α α' : AH} {w : World} (h : Rel P G m α w) {e : TypeId} {v v' r : Value} (hv : VR m v v') (hl : abox e v α = some (r, α')) :
    ∃ m' r' w', (Instr.box e v').run P w = .ok r' w' ∧ m.le m' ∧ Rel P G m' α' w' ∧ VR m' r r' := by
  unfold abox at hl
  split at hl
  · rename_i hall
    injection hl with hl
    obtain ⟨rfl, rfl⟩ := Prod.mk.inj hl
    have hvl := hv.cells hall
    obtain ⟨p1, p2, p3, p4, p5⟩ := push_new h.n w.heap.size 0 v'.cells.size (P.cellsOf e)
    refine ⟨_, .pointer (some ⟨w.heap.size, 0, none⟩), w.alloc (.cells v'.cells e), rfl, AM.le_push m w.heap.size 0 v'.cells.size (P.cellsOf e), ?_, ?_⟩
    · refine h.alloc (cellsL v) v'.cells e (fun i x hx => ?_) (by have := hvl.1; simp [cellsL] at this ⊢; omega) (fun x hx => List.all_eq_true.1 hall x hx)
      obtain ⟨x', h1, h2⟩ := hvl.2 i x hx
      exact ⟨x', by simpa [cellsL] using h1, h2⟩
    · have := VR.ptr (m := m.push w.heap.size 0 v'.cells.size (P.cellsOf e)) (id := α.n) (off := 0) p5
      rw [p1, p2] at this
      exact this
  · cases hl

def aalloc (P : Program) (e : TypeId) (α : AH) : Option (Value × AH) :=
  match zeroA P e with
  | some z => if flatD z = true then abox e z α else none
  | none => none
theorem alloc_sound {P : Program} {G : World} {m : AM} {α α' : AH} {w : World} (h : Rel P G m α w) {e : TypeId} {r : Value} (hl : aalloc P e α = some (r, α')) :
    ∃ m' r' w', (Instr.alloc e true (.tuple #[])).run P w = .ok r' w' ∧ m.le m' ∧ Rel P G m' α' w' ∧ VR m' r r' := by
  unfold aalloc at hl
  split at hl
  · rename_i z hz
    split at hl
    · rename_i hf
      obtain ⟨m', r', w', h1, h2⟩ := box_sound h (VR.flatD (m := m) hf) hl
      refine ⟨m', r', w', ?_, h2⟩
      simp only [Instr.box, Sem.run_bind, Sem.run_pure] at h1
      simp only [Instr.alloc, Sem.run_bind, Sem.run_pure, run_zeroA hz, Result.andThen_ok]
      exact h1
    · cases hl
  · cases hl

/-! ### structs and literals -/
def afill (place : Nat → Option (Nat × Nat)) : List Value → List (Nat × Value) → Option (List Value)
  | cells, [] => some cells
  | cells, (i, v) :: rest =>
    match place i with
    | none => none
    | some (off, size) => if (cellsL v).all isCell = true ∧ (cellsL v).length = size ∧ off + size ≤ cells.length then afill place (setL cells off (cellsL v)) rest else none

theorem fold_set : ∀ (vs : List Value) (k off : Nat) (cs : Array Value), ((vs.zipIdx k).foldl (fun (cs : Array Value) (x : Value × Nat) => cs.setIfInBounds (off + x.2) x.1) cs).toList = setL cs.toList (off + k) vs
  | [], _, _, _ => rfl
  | v :: vs, k, off, cs => by
    rw [List.zipIdx_cons, List.foldl_cons, fold_set vs (k + 1) off]
    simp [setL, Nat.add_assoc]

theorem fold_set' (v : Value) (off : Nat) (cs : Array Value) : (v.cells.zipIdx.foldl (fun (cs : Array Value) (x : Value × Nat) => cs.setIfInBounds (off + x.2) x.1) cs).toList = setL cs.toList off (cellsL v) := by
  rw [← Array.foldl_toList]
  have := fold_set (cellsL v) 0 off cs
  rw [Nat.add_zero] at this
  rw [← this]
  simp [cellsL]

theorem VRL.setL {m : AM} : ∀ {vs vs' l l' : List Value} (o : Nat), VRL m l l' → VRL m vs vs' → VRL m (setL l o vs) (setL l' o vs')
  | [], [], l, l', o, h, _ => h
  | [], _ :: _, _, _, _, _, k => by simp [VRL] at k
  | _ :: _, [], _, _, _, _, k => by simp [VRL] at k
  | v :: vs, v' :: vs', l, l', o, h, k => by
    have hv : VR m v v' := by obtain ⟨x', h1, h2⟩ := k.2 0 v rfl; simp at h1; subst h1; exact h2
    have ht : VRL m vs vs' := k.drop 1
    exact VRL.setL (o + 1) (h.set hv o) ht

theorem fill_sound {m : AM} {place : Nat → Option (Nat × Nat)} : ∀ {parts parts' : List (Nat × Value)} {cells c : List Value} {cells' : Array Value}, VRL m cells cells'.toList →
    (parts.length = parts'.length ∧ ∀ (i k : Nat) (x : Value), parts[i]? = some (k, x) → ∃ x', parts'[i]? = some (k, x') ∧ VR m x x') → afill place cells parts = some c →
    ∃ c', Instr.fill place cells' parts' = some c' ∧ VRL m c c'.toList
  | [], [], cells, c, cells', h, _, hl => by simp [afill] at hl; subst hl; exact ⟨cells', rfl, h⟩
  | [], _ :: _, _, _, _, _, k, _ => by simp at k
  | _ :: _, [], _, _, _, _, k, _ => by simp at k
  | (i, v) :: rest, (i', v') :: rest', cells, c, cells', h, k, hl => by
    obtain ⟨x', h1, h2⟩ := k.2 0 i v rfl
    simp at h1
    obtain ⟨rfl, rfl⟩ := h1
    simp only [afill] at hl
    split at hl
    · cases hl
    · rename_i off size hp
      split at hl
      · rename_i hc
        obtain ⟨hall, hlen, hfit⟩ := hc
        have hvl := h2.cells hall
        have hsz : v'.cells.size = size := by have := hvl.1; simp [cellsL] at this hlen; omega
        have hcs : cells.length = cells'.size := by simpa using h.1
        have hrec : VRL m (Go.Lay.setL cells off (cellsL v)) (v'.cells.zipIdx.foldl (fun (cs : Array Value) (x : Value × Nat) => cs.setIfInBounds (off + x.2) x.1) cells').toList := by
          rw [fold_set']; exact VRL.setL off h hvl
        obtain ⟨c', g1, g2⟩ := fill_sound (parts' := rest') hrec ⟨by simpa using k.1, fun j q x hx => k.2 (j + 1) q x (by simpa using hx)⟩ hl
        refine ⟨c', ?_, g2⟩
        simp only [Instr.fill, hp]
        rw [if_neg (by simp; omega)]
        exact g1
      · cases hl

def placesA (P : Program) (t : TypeId) : Option (List (Nat × Nat)) :=
  match P.underlying t with
  | some (.struct fields) => fields.toList.mapM (fun f => (P.info? f.type).map fun i => (f.offset, i.size))
  | _ => none
def abuild (P : Program) (t : TypeId) (parts : List (Nat × Value)) : Option Value :=
  match zeroA P t with
  | some z => if flatD z = true ∧ (cellsL z).all isCell = true then
      match P.underlying t with
      | some (.struct _) => match placesA P t with
        | some pl => (afill (fun i => pl[i]?) (cellsL z) parts).map fun c => .agg c.toArray
        | none => none
      | some (.array _ e) => match sizeA P e with
        | some sz => (afill (fun i => some (i * sz, sz)) (cellsL z) parts).map fun c => .agg c.toArray
        | none => none
      | _ => none
    else none
  | none => none

theorem zeroA_info {P : Program} {t : TypeId} {z : Value} (h : zeroA P t = some z) : ∃ i, P.info? t = some i ∧ i.zero = some z := by
  unfold zeroA at h
  cases hi : P.info? t with
  | none => simp [hi] at h
  | some i => simp [hi] at h; exact ⟨i, rfl, h⟩
theorem sizeA_info {P : Program} {t : TypeId} {n : Nat} (h : sizeA P t = some n) : ∃ i, P.info? t = some i ∧ i.size = n := by
  unfold sizeA at h
  cases hi : P.info? t with
  | none => simp [hi] at h
  | some i => simp [hi] at h; exact ⟨i, rfl, h⟩

theorem build_sound {P : Program} {m : AM} {t : TypeId} {parts parts' : List (Nat × Value)} {r : Value}
    (hp : parts.length = parts'.length ∧ ∀ (i k : Nat) (x : Value), parts[i]? = some (k, x) → ∃ x', parts'[i]? = some (k, x') ∧ VR m x x') (hl : abuild P t parts = some r) :
    ∃ r', (∀ w, (Instr.build t parts'.toArray).run P w = .ok r' w) ∧ VR m r r' := by
  unfold abuild at hl
  split at hl
  · rename_i z hz
    obtain ⟨it, hi, hiz⟩ := zeroA_info hz
    split at hl
    · rename_i hf
      have hzz : VRL m (cellsL z) z.cells.toList := (VR.flatD (m := m) hf.1).cells hf.2
      split at hl
      · rename_i fs hu
        split at hl
        · rename_i pl hpl
          cases hc : afill (fun i => pl[i]?) (cellsL z) parts with
          | none => simp [hc] at hl
          | some c =>
            simp [hc] at hl
            subst hl
            obtain ⟨c', g1, g2⟩ := fill_sound hzz hp hc
            refine ⟨.agg c', fun w => run_build w t _ c' ?_, by have := g2.agg; simpa using this⟩
            unfold placesA at hpl
            simp only [hu] at hpl
            simp only [Program.built, hi, hu, hiz, hpl]
            simpa using g1
        · cases hl
      · rename_i n e hu
        split at hl
        · rename_i sz hs
          obtain ⟨ie, hie, hsz⟩ := sizeA_info hs
          cases hc : afill (fun i => some (i * sz, sz)) (cellsL z) parts with
          | none => simp [hc] at hl
          | some c =>
            simp [hc] at hl
            subst hl
            obtain ⟨c', g1, g2⟩ := fill_sound hzz hp hc
            refine ⟨.agg c', fun w => run_build w t _ c' ?_, by have := g2.agg; simpa using this⟩
            simp only [Program.built, hi, hu, hiz, hie, hsz]
            simpa using g1
        · cases hl
      · cases hl
    · cases hl
  · cases hl

/-- n elements that are all the same -/
def rep (n : Nat) (z : List Value) : List Value := (List.replicate n z).flatten
theorem length_rep (n : Nat) (z : List Value) : (rep n z).length = n * z.length := by simp [rep]
theorem get_rep (z : List Value) : ∀ (n i : Nat), i < n * z.length → (rep n z)[i]? = z[i % z.length]?
  | 0, i, h => by simp at h
  | n + 1, i, h => by
    rw [rep, List.replicate_succ, List.flatten_cons, List.getElem?_append]
    by_cases hi : i < z.length
    · rw [if_pos hi, Nat.mod_eq_of_lt hi]
    · rw [if_neg hi]
      have := get_rep z n (i - z.length) (by rw [Nat.succ_mul] at h; omega)
      rw [rep] at this
      rw [this, Nat.mod_eq_sub_mod (a := i) (by omega)]

theorem made_rel {m : AM} {z : Value} (hz : flatD z = true) (hc : (cellsL z).all isCell = true) (n sz : Nat) (hs : (cellsL z).length = sz) :
    VRL m (rep n (cellsL z)) ((Array.range (n * sz)).map (z.cells[· % z.cells.size]!)).toList := by
  refine ⟨by rw [length_rep]; simp [hs], fun i x hx => ?_⟩
  have hi : i < n * sz := by have := (List.getElem?_eq_some_iff.1 hx).1; rw [length_rep, hs] at this; exact this
  rw [get_rep _ _ _ (by rw [hs]; exact hi)] at hx
  have hzs : z.cells.size = sz := by simpa [cellsL] using hs
  refine ⟨x, ?_, ?_⟩
  · have hpos : 0 < z.cells.size := by
      rcases Nat.eq_zero_or_pos z.cells.size with h0 | h0
      · rw [← hzs, h0] at hi; simp at hi
      · exact h0
    simp [hi]
    rw [hs, cellsL, Array.getElem?_toList] at hx
    rw [hzs, getElem!_def, hx]
  · have hm := List.mem_of_getElem? hx
    have h1 := (VR.flatD (m := m) hz).cells hc
    obtain ⟨j, hj⟩ := List.mem_iff_getElem?.1 hm
    obtain ⟨x', a, b⟩ := h1.2 j x hj
    rw [hj] at a
    injection a with a
    subst a
    exact b

theorem rep_cell {z : Value} (hc : (cellsL z).all isCell = true) (n : Nat) : ∀ x ∈ rep n (cellsL z), isCell x = true := fun x hx => by
  simp only [rep, List.mem_flatten, List.mem_replicate] at hx
  obtain ⟨l, ⟨_, rfl⟩, hx⟩ := hx
  exact List.all_eq_true.1 hc x hx

def abuildSlice (P : Program) (t : TypeId) (len : Nat) (parts : List (Nat × Value)) (α : AH) : Option (Value × AH) :=
  match P.underlying t with
  | some (.slice e) =>
    match zeroA P e, sizeA P e with
    | some z, some sz =>
      if flatD z = true ∧ (cellsL z).all isCell = true ∧ (cellsL z).length = sz ∧ len * sz ≤ 2 ^ 24 ∧ 0 < sz then
        match afill (fun i => some (i * sz, sz)) (rep len (cellsL z)) parts with
        | some c => some (.slice (some ⟨α.n, 0, none⟩) len 0, α.alloc ⟨c, e, true⟩)
        | none => none
      else none
    | _, _ => none
  | _ => none

theorem afill_cell {place : Nat → Option (Nat × Nat)} : ∀ {parts : List (Nat × Value)} {cells c : List Value}, (∀ x ∈ cells, isCell x = true) → afill place cells parts = some c → (∀ x ∈ c, isCell x = true) ∧ c.length = cells.length
  | [], cells, c, h, hl => by simp [afill] at hl; subst hl; exact ⟨h, rfl⟩
  | (i, v) :: rest, cells, c, h, hl => by
    simp only [afill] at hl
    split at hl
    · cases hl
    · split at hl
      · rename_i hc
        obtain ⟨a, b⟩ := afill_cell (fun x hx => by
          obtain ⟨j, hj⟩ := List.mem_iff_getElem?.1 hx
          rw [get_setL _ _ _ _ (by omega)] at hj
          split at hj
          · exact List.all_eq_true.1 hc.1 x (List.mem_of_getElem? hj)
          · exact h x (List.mem_of_getElem? hj)) hl
        exact ⟨a, by rw [b, length_setL]⟩
      · cases hl

theorem buildSlice_sound {P : Program} {G : World} {m : AM} {α α' : AH} {w : World} (h : Rel P G m α w) {t : TypeId} {len : Nat} {parts parts' : List (Nat × Value)} {r : Value}
    (hp : parts.length = parts'.length ∧ ∀ (i k : Nat) (x : Value), parts[i]? = some (k, x) → ∃ x', parts'[i]? = some (k, x') ∧ VR m x x') (hl : abuildSlice P t len parts α = some (r, α')) :
    ∃ m' r' w', (Instr.buildSlice t len parts'.toArray).run P w = .ok r' w' ∧ m.le m' ∧ Rel P G m' α' w' ∧ VR m' r r' := by
  unfold abuildSlice at hl
  split at hl
  · rename_i e hu
    split at hl
    · rename_i z sz hz hs
      split at hl
      · rename_i hf
        obtain ⟨f1, f2, f3, f4, f5⟩ := hf
        split at hl
        · rename_i c hc
          injection hl with hl
          obtain ⟨rfl, rfl⟩ := Prod.mk.inj hl
          have hsmall : ¬ len * sz > 16777216 := by omega
          obtain ⟨k1, k2⟩ := afill_cell (rep_cell f2 len) hc
          have hclen : c.length = len * sz := by rw [k2, length_rep, f3]
          have hrel : ∃ c' : Array Value, VRL m c c'.toList ∧ (Instr.buildSlice t len parts'.toArray).run P w = .ok (.slice (some ⟨w.heap.size, 0, none⟩) len len) (w.alloc (.cells c' e)) := by
            obtain ⟨c', g1, g2⟩ := fill_sound (made_rel f1 f2 len sz f3) hp hc
            refine ⟨c', g2, ?_⟩
            by_cases h0 : len * sz = 0
            · have hl0 : len = 0 := by rcases Nat.mul_eq_zero.1 h0 with h | h <;> omega
              subst hl0
              have e0 : Array.range 0 = #[] := rfl
              simp only [Nat.zero_mul, e0, Array.map_empty] at g1
              simp [Instr.buildSlice, run_underlying hu, run_sizeA hs, e0, g1, newRow]
            · obtain ⟨ie, hie, hsz⟩ := sizeA_info hs
              obtain ⟨ie2, hie2, hzz⟩ := zeroA_info hz
              rw [hie] at hie2
              injection hie2 with hie2
              subst hie2
              subst hsz
              exact run_buildSlice w t e len _ c' ie z hu hie hzz hsmall h0 (by simpa using g1)
          obtain ⟨c', g2, hrun⟩ := hrel
          have hsz' : c'.size = len * sz := by have := g2.1; simp at this; omega
          obtain ⟨p1, p2, p3, p4, p5⟩ := push_new h.n w.heap.size 0 c'.size (P.cellsOf e)
          refine ⟨_, _, _, hrun, AM.le_push m w.heap.size 0 c'.size (P.cellsOf e), h.alloc c c' e (fun i x hx => ?_) (by omega) k1, ?_⟩
          · obtain ⟨x', h1, h2⟩ := g2.2 i x hx
            exact ⟨x', by simpa using h1, h2⟩
          · have := VR.sl (m := m.push w.heap.size 0 c'.size (P.cellsOf e)) (id := α.n) (off := 0) (len := len) (c := 0) (c' := len) (o' := 0) p5 (fun _ => by rw [p2]) (Nat.le_refl _)
              (by rw [p3, p4, cellsOf_sizeA hs, hsz']; omega)
            rw [p1] at this
            exact this
        · cases hl
      · cases hl
    · cases hl
  · cases hl

/-! ### make -/
def amake (P : Program) (t : TypeId) (l c : Value) (α : AH) : Option (Value × AH) :=
  match P.underlying t, l, c with
  | some (.slice e), .int _ n, .int _ n' =>
    match zeroA P e, sizeA P e with
    | some z, some sz =>
      if flatD z = true ∧ (cellsL z).all isCell = true ∧ (cellsL z).length = sz ∧ n' = n ∧ 0 ≤ n ∧ n ≤ 140737488355328 ∧ n * bytesA P e ≤ 140737488355328 then
        some (.slice (some ⟨α.n, 0, none⟩) n.toNat 0, α.alloc ⟨rep n.toNat (cellsL z), e, true⟩)
      else none
    | _, _ => none
  | _, _, _ => none

theorem run_typeInfoA {P : Program} {t : TypeId} {n : Nat} (h : sizeA P t = some n) (w : World) : ∃ i, P.info? t = some i ∧ i.size = n ∧ i.bytes = bytesA P t ∧ (typeInfo t).run P w = .ok i w := by
  obtain ⟨i, hi, hn⟩ := sizeA_info h
  exact ⟨i, hi, hn, by simp [bytesA, Program.bytesOf, hi], by simp [typeInfo, hi]⟩

theorem make_sound {P : Program} {G : World} {m : AM} {α α' : AH} {w : World} (h : Rel P G m α w) {t : TypeId} {l l' c c' : Value} {r : Value} (h1 : VR m l l') (h2 : VR m c c') (hl : amake P t l c α = some (r, α')) :
    ∃ m' r' w', (Instr.makeSlice t l' c').run P w = .ok r' w' ∧ m.le m' ∧ Rel P G m' α' w' ∧ VR m' r r' := by
  unfold amake at hl
  split at hl
  · rename_i e k n k' n' hu
    obtain rfl := h1.eq_flat rfl
    obtain rfl := h2.eq_flat rfl
    split at hl
    · rename_i z sz hz hs
      split at hl
      · rename_i hf
        obtain ⟨f1, f2, f3, rfl, f5, f6, f7⟩ := hf
        injection hl with hl
        obtain ⟨rfl, rfl⟩ := Prod.mk.inj hl
        obtain ⟨N, rfl⟩ := Int.eq_ofNat_of_zero_le f5
        obtain ⟨i, hi, hin, hib, hrun⟩ := run_typeInfoA hs w
        have hcells := made_rel (m := m) f1 f2 N sz f3
        have key : (Instr.makeSlice t (.int k (N : Int)) (.int k' (N : Int))).run P w = .ok (.slice (some ⟨w.heap.size, 0, none⟩) N N) (w.alloc (.cells ((Array.range (N * sz)).map (z.cells[· % z.cells.size]!)) e)) := by
          obtain ⟨i2, hi2, hiz⟩ := zeroA_info hz
          rw [hi] at hi2
          injection hi2 with hi2
          subst hi2
          subst hin
          exact run_make w t e i z hu hi hiz k k' N N (by omega) (Int.le_refl _) (by rw [hib, Int.mul_comm]; omega) (by omega)
        obtain ⟨p1, p2, p3, p4, p5⟩ := push_new h.n w.heap.size 0 (N * sz) (P.cellsOf e)
        refine ⟨m.push w.heap.size 0 (N * sz) (P.cellsOf e), _, _, key, AM.le_push m w.heap.size 0 (N * sz) (P.cellsOf e), ?_, ?_⟩
        · have := h.alloc (rep N (cellsL z)) ((Array.range (N * sz)).map (z.cells[· % z.cells.size]!)) e (fun i x hx => ?_) (by rw [length_rep, f3]; simp) (rep_cell f2 N)
          · simpa using this
          · obtain ⟨x', h1, h2⟩ := hcells.2 i x hx
            exact ⟨x', by rw [← Array.getElem?_toList]; exact h1, h2⟩
        · have := VR.sl (m := m.push w.heap.size 0 (N * sz) (P.cellsOf e)) (id := α.n) (off := 0) (len := N) (c := 0) (c' := N) (o' := 0) p5 (fun _ => by rw [p2]) (Nat.le_refl _)
            (by rw [p3, p4, cellsOf_sizeA hs]; omega)
          rw [p1] at this
          simpa using this
      · cases hl
    · cases hl
  · cases hl

end Go.Lay
