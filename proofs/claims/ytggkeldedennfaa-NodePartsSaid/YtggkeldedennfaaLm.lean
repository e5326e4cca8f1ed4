/- The layer, part 10: lists in memory. -/
import Derived.Test.YtggkeldedennfaaLh
set_option linter.unusedVariables false
set_option linter.unusedSimpArgs false
namespace Go.Lay
open Go Go.RowKit

/-- Below N all is as it was. -/
structure Fr (N : Nat) (α α' : AH) : Prop where
  n : α.n ≤ α'.n
  get : ∀ id, id < N → α'.get id = α.get id
theorem Fr.refl (N : Nat) (α : AH) : Fr N α α := ⟨Nat.le_refl _, fun _ _ => rfl⟩
theorem Fr.trans {N : Nat} {a b c : AH} (h : Fr N a b) (k : Fr N b c) : Fr N a c := ⟨Nat.le_trans h.n k.n, fun i hi => (k.get i hi).trans (h.get i hi)⟩
theorem Fr.mono {N N' : Nat} {a b : AH} (h : Fr N a b) (hn : N' ≤ N) : Fr N' a b := ⟨h.n, fun i hi => h.get i (Nat.lt_of_lt_of_le hi hn)⟩
theorem Fr.alloc {N : Nat} {α β : AH} (h : Fr N α β) (hN : N ≤ β.n) (b : ABlk) : Fr N α (β.alloc b) :=
  ⟨Nat.le_succ_of_le h.n, fun i hi => by rw [AH.alloc_get_ne _ _ (by omega)]; exact h.get i hi⟩
theorem Fr.set {N : Nat} {α β : AH} (h : Fr N α β) {id : Nat} (hid : N ≤ id) (b : Option ABlk) : Fr N α (β.set id b) :=
  ⟨h.n, fun i hi => by rw [AH.set_get_ne _ _ (by omega)]; exact h.get i hi⟩

/-- A kind of values: how many cells, and what they are. -/
structure Kd (τ : Type) where
  sz : Nat
  R : AH → τ → List Value → Prop
  len : ∀ {α x c}, R α x c → c.length = sz
  cell : ∀ {α x c}, R α x c → ∀ v ∈ c, isCell v = true
  fr : ∀ {α α' x c}, Fr α.n α α' → R α x c → R α' x c

def intK (k : IntKind) : Kd Int := ⟨1, fun _ n c => c = [.int k n], fun h => by rw [h]; rfl, fun h v hv => by rw [h] at hv; simp at hv; subst hv; rfl, fun _ h => h⟩
def boolK : Kd Bool := ⟨1, fun _ n c => c = [.bool n], fun h => by rw [h]; rfl, fun h v hv => by rw [h] at hv; simp at hv; subst hv; rfl, fun _ h => h⟩
def strK : Kd ByteArray := ⟨1, fun _ n c => c = [.string n], fun h => by rw [h]; rfl, fun h v hv => by rw [h] at hv; simp at hv; subst hv; rfl, fun _ h => h⟩
/-- A kind whose cells are told by the value alone. -/
def flatK {τ : Type} (sz : Nat) (enc : τ → List Value) (h : ∀ x, (enc x).length = sz) (hc : ∀ x, ∀ v ∈ enc x, isCell v = true) : Kd τ :=
  ⟨sz, fun _ x c => c = enc x, fun e => by rw [e]; exact h _, fun e v hv => by rw [e] at hv; exact hc _ v hv, fun _ e => e⟩

/-- What is of this kind leads to no row whose elements are of type e. -/
def Kd.apart {τ : Type} (K : Kd τ) (e : TypeId) : Prop := ∀ (α : AH) (id : Nat) (b : ABlk) (o : Option ABlk) (x : τ) (c : List Value), α.get id = some b → b.elem = e → K.R α x c → K.R (α.set id o) x c
theorem flatK_apart {τ : Type} (sz : Nat) (enc : τ → List Value) (h : ∀ x, (enc x).length = sz) (hc : ∀ x, ∀ v ∈ enc x, isCell v = true) (e : TypeId) : (flatK sz enc h hc).apart e := fun _ _ _ _ _ _ _ _ h => h
theorem intK_apart (k : IntKind) (e : TypeId) : (intK k).apart e := fun _ _ _ _ _ _ _ _ h => h
theorem boolK_apart (e : TypeId) : boolK.apart e := fun _ _ _ _ _ _ _ _ h => h
theorem strK_apart (e : TypeId) : strK.apart e := fun _ _ _ _ _ _ _ _ h => h

/-- A slice that reads as a list. -/
def Sl {τ : Type} (e : TypeId) (K : Kd τ) (α : AH) (v : Value) (xs : List τ) : Prop :=
  (v = .slice none 0 0 ∧ xs = []) ∨ ∃ id off c b, v = .slice (some ⟨id, off, none⟩) xs.length c ∧ id < α.n ∧ α.get id = some b ∧ b.elem = e ∧ off + xs.length * K.sz ≤ b.cells.length ∧
    ∀ (i : Nat) (h : i < xs.length), K.R α xs[i] ((b.cells.drop (off + i * K.sz)).take K.sz)
theorem Sl.fr {τ : Type} {e : TypeId} {K : Kd τ} {α α' : AH} {v : Value} {xs : List τ} (h : Sl e K α v xs) (hf : Fr α.n α α') : Sl e K α' v xs := by
  rcases h with h | ⟨id, off, c, b, h1, h2, h3, h4, h5, h6⟩
  · exact .inl h
  · exact .inr ⟨id, off, c, b, h1, Nat.lt_of_lt_of_le h2 hf.n, by rw [hf.get id h2]; exact h3, h4, h5, fun i hi => K.fr hf (h6 i hi)⟩
theorem Sl.isCell {τ : Type} {e : TypeId} {K : Kd τ} {α : AH} {v : Value} {xs : List τ} (h : Sl e K α v xs) : Lay.isCell v = true := by
  rcases h with ⟨rfl, _⟩ | ⟨id, off, c, b, rfl, _⟩ <;> rfl
def sliceK {τ : Type} (e : TypeId) (K : Kd τ) : Kd (List τ) :=
  ⟨1, fun α xs c => ∃ v, c = [v] ∧ Sl e K α v xs, fun ⟨v, h, _⟩ => by rw [h]; rfl, fun ⟨v, h, k⟩ u hu => by rw [h] at hu; simp at hu; subst hu; exact k.isCell, fun hf ⟨v, h, k⟩ => ⟨v, h, k.fr hf⟩⟩

theorem Sl.set {τ : Type} {e e' : TypeId} {K : Kd τ} {α : AH} {v : Value} {xs : List τ} (h : Sl e K α v xs) {id : Nat} {b : ABlk} (hb : α.get id = some b) (hbe : b.elem = e') (hne : e ≠ e') (hk : K.apart e') (o : Option ABlk) : Sl e K (α.set id o) v xs := by
  rcases h with h | ⟨i, off, c, b', h1, h2, h3, h4, h5, h6⟩
  · exact .inl h
  · have hi : i ≠ id := fun hi => by subst hi; rw [hb] at h3; injection h3 with h3; subst h3; exact hne (h4.symm.trans hbe)
    exact .inr ⟨i, off, c, b', h1, h2, by rw [AH.set_get_ne _ _ hi]; exact h3, h4, h5, fun j hj => hk α id b o _ _ hb hbe (h6 j hj)⟩
theorem sliceK_apart {τ : Type} {e e' : TypeId} {K : Kd τ} (hne : e ≠ e') (hk : K.apart e') : (sliceK e K).apart e' := fun α id b o x c hb hbe ⟨v, h, k⟩ => ⟨v, h, k.set hb hbe hne hk o⟩

/-- What a slice says where it is read. -/
theorem Sl.rd {τ : Type} {e : TypeId} {K : Kd τ} {α : AH} {v : Value} {xs : List τ} (h : Sl e K α v xs) {P : Program} {t : TypeId} (hu : P.underlying t = some (.slice e)) (hs : sizeA P e = some K.sz) :
    ∃ id off, (alen P #[t] v = some (.int .i64 (xs.length : Int))) ∧
      (∀ (k : IntKind) (i : Nat), i < xs.length → aindexAddr P t v (.int k (i : Int)) = some (.pointer (some ⟨id, off + i * K.sz, none⟩))) ∧
      ∀ β, Fr α.n α β → ∀ (i : Nat) (hi : i < xs.length), ∃ b, β.get id = some b ∧ off + i * K.sz + K.sz ≤ b.cells.length ∧ K.R β xs[i] ((b.cells.drop (off + i * K.sz)).take K.sz) := by
  rcases h with ⟨rfl, rfl⟩ | ⟨id, off, c, b, rfl, h2, h3, h4, h5, h6⟩
  · exact ⟨0, 0, by simp [hu], fun k i hi => by simp at hi, fun β _ i hi => by simp at hi⟩
  · refine ⟨id, off, by simp [hu], fun k i hi => by simp [hu, hi, hs], fun β hf i hi => ⟨b, by rw [hf.get id h2]; exact h3, ?_, K.fr hf (h6 i hi)⟩⟩
    have : (i + 1) * K.sz ≤ xs.length * K.sz := Nat.mul_le_mul_right _ hi
    rw [Nat.succ_mul] at this
    omega

theorem take_get {l c : List Value} {n o j : Nat} (h : (l.drop o).take n = c) (hj : j < c.length) : l[o + j]? = c[j]? := by
  subst h
  have : j < n := by simp at hj; omega
  rw [List.getElem?_take, if_pos this, List.getElem?_drop]

/-- Whole elements, read. -/
theorem ld_agg {P : Program} {e : TypeId} {β : AH} {id o n : Nat} {b : ABlk} {c : List Value} (hb : β.get id = some b) (hf : o + n ≤ b.cells.length) (hc : (b.cells.drop o).take n = c) (ha : aggA P e = some true) (hs : sizeA P e = some n) :
    aload P e (.pointer (some ⟨id, o, none⟩)) β = some (.agg c.toArray) := by simp [hb, ha, hs, hf, hc]
theorem ld_cell {P : Program} {e : TypeId} {β : AH} {id o n j : Nat} {b : ABlk} {c : List Value} {v : Value} (hb : β.get id = some b) (hc : (b.cells.drop o).take n = c) (ha : aggA P e = some false) (hv : c[j]? = some v) :
    aload P e (.pointer (some ⟨id, o + j, none⟩)) β = some v := by
  have hj : j < c.length := (List.getElem?_eq_some_iff.1 hv).1
  simp [hb, ha, take_get hc hj, hv]

/-! ### rows of one's own -/
/-- A row that the call has made: nil, or the whole of a block from N on. -/
def Ow {τ : Type} (N : Nat) (e : TypeId) (K : Kd τ) (α : AH) (v : Value) (xs : List τ) : Prop :=
  (v = .slice none 0 0 ∧ xs = []) ∨ ∃ id c b, v = .slice (some ⟨id, 0, none⟩) xs.length c ∧ N ≤ id ∧ id < α.n ∧ α.get id = some b ∧ b.elem = e ∧ b.own = true ∧ xs.length * K.sz ≤ b.cells.length ∧
    ∀ (i : Nat) (h : i < xs.length), K.R α xs[i] ((b.cells.drop (i * K.sz)).take K.sz)
theorem Ow.sl {τ : Type} {N : Nat} {e : TypeId} {K : Kd τ} {α : AH} {v : Value} {xs : List τ} (h : Ow N e K α v xs) : Sl e K α v xs := by
  rcases h with h | ⟨id, c, b, h1, h2, h3, h4, h5, h6, h7, h8⟩
  · exact .inl h
  · exact .inr ⟨id, 0, c, b, h1, h3, h4, h5, by omega, fun i hi => by rw [Nat.zero_add]; exact h8 i hi⟩
theorem Ow.nil {τ : Type} {N : Nat} {e : TypeId} {K : Kd τ} {α : AH} : Ow N e K α (.slice none 0 0) [] := .inl ⟨rfl, rfl⟩
theorem Ow.mono {τ : Type} {N N' : Nat} {e : TypeId} {K : Kd τ} {α : AH} {v : Value} {xs : List τ} (h : Ow N e K α v xs) (hn : N' ≤ N) : Ow N' e K α v xs := by
  rcases h with h | ⟨id, c, b, h1, h2, h3⟩
  · exact .inl h
  · exact .inr ⟨id, c, b, h1, Nat.le_trans hn h2, h3⟩
theorem Ow.fr {τ : Type} {N : Nat} {e : TypeId} {K : Kd τ} {α α' : AH} {v : Value} {xs : List τ} (h : Ow N e K α v xs) (hf : Fr α.n α α') : Ow N e K α' v xs := by
  rcases h with h | ⟨id, c, b, h1, h2, h3, h4, h5, h6, h7, h8⟩
  · exact .inl h
  · exact .inr ⟨id, c, b, h1, h2, Nat.lt_of_lt_of_le h3 hf.n, by rw [hf.get id h3]; exact h4, h5, h6, h7, fun i hi => K.fr hf (h8 i hi)⟩

/-- What a type says of a slice of its elements. -/
structure ElT (P : Program) (t e : TypeId) (sz by_ : Nat) : Prop where
  under : P.underlying t = some (.slice e)
  size : sizeA P e = some sz
  zero : ∃ z, zeroA P e = some z ∧ flatD z = true ∧ (cellsL z).all isCell = true ∧ (cellsL z).length = sz
  bytes : bytesA P e = by_
  pos : 0 < by_
  szpos : 0 < sz

/-- Blocks whose elements are of other types are as they were. -/
def Kp (e : TypeId) (α α' : AH) : Prop := ∀ i b, α.get i = some b → b.elem ≠ e → i < α.n → α'.get i = some b
theorem Kp.refl (e : TypeId) (α : AH) : Kp e α α := fun _ _ h _ _ => h
theorem Kp.alloc {e : TypeId} {α β : AH} (h : Kp e α β) (hn : α.n ≤ β.n) (c : ABlk) : Kp e α (β.alloc c) := fun i b h1 h2 h3 => by rw [AH.alloc_get_ne _ _ (by omega)]; exact h i b h1 h2 h3
theorem Kp.fr {e : TypeId} {α β : AH} (h : Fr α.n α β) : Kp e α β := fun i b h1 _ h3 => by rw [h.get i h3]; exact h1
theorem Kp.trans {e : TypeId} {α β γ : AH} (h : Kp e α β) (k : Kp e β γ) (hn : α.n ≤ β.n) : Kp e α γ := fun i b h1 h2 h3 => k i b (h i b h1 h2 h3) h2 (Nat.lt_of_lt_of_le h3 hn)
theorem Kp.set {e : TypeId} {α : AH} {id : Nat} {b : ABlk} (hb : α.get id = some b) (he : b.elem = e) (o : Option ABlk) : Kp e α (α.set id o) := fun i c h1 h2 h3 => by
  rw [AH.set_get_ne _ _ (fun hi => by subst hi; rw [hb] at h1; injection h1 with h1; subst h1; exact h2 he)]; exact h1

theorem drop_append_cells {a b : List Value} {n i sz : Nat} (ha : a.length = n * sz) (h : i = n) : ((a ++ b).drop (i * sz)).take sz = b.take sz := by
  subst h
  rw [← ha, List.drop_left]

/-- append of elements to a row of one's own. -/
theorem Ow.append {τ : Type} {N : Nat} {e : TypeId} {K : Kd τ} {α : AH} {v x : Value} {xs ys : List τ} (h : Ow N e K α v xs) {P : Program} {t : TypeId} {by_ : Nat} (T : ElT P t e K.sz by_) (hN : N ≤ α.n) (hy : Sl e K α x ys)
    (hk : K.apart e) (hl : (xs.length + ys.length) * by_ ≤ 140737488355328) :
    ∃ v' α', aappend P #[t, t] v x α = some (v', α') ∧ Ow N e K α' v' (xs ++ ys) ∧ Fr N α α' ∧ Kp e α α' := by
  obtain ⟨hu, hs, ⟨z, hz, hz1, hz2, hz3⟩, hb, hb0, hs0⟩ := T
  have hyR : ∃ vs, asrc K.sz x α = some (ys.length, vs) ∧ vs.length = ys.length * K.sz ∧ ∀ (i : Nat) (hi : i < ys.length), K.R α ys[i] ((vs.drop (i * K.sz)).take K.sz) := by
    rcases hy with ⟨rfl, rfl⟩ | ⟨id, off, c, b, rfl, h2, h3, h4, h5, h6⟩
    · exact ⟨[], rfl, by simp, fun i hi => by simp at hi⟩
    · refine ⟨(b.cells.drop off).take (ys.length * K.sz), by simp only [asrc, h3]; rw [if_pos h5], by simp; omega, fun i hi => ?_⟩
      have : (i + 1) * K.sz ≤ ys.length * K.sz := Nat.mul_le_mul_right _ hi
      rw [Nat.succ_mul] at this
      have e1 : ((((b.cells.drop off).take (ys.length * K.sz)).drop (i * K.sz)).take K.sz) = (b.cells.drop (off + i * K.sz)).take K.sz := by
        rw [List.drop_take, List.drop_drop, List.take_take, Nat.min_eq_left (by omega)]
      rw [e1]
      exact h6 i hi
  obtain ⟨vs, hv1, hv2, hv3⟩ := hyR
  have hseq : seqA (some (.slice e)) = true := rfl
  have both : ∀ (pre : List Value), pre.length = xs.length * K.sz → (∀ (i : Nat) (hi : i < xs.length), K.R α xs[i] ((pre.drop (i * K.sz)).take K.sz)) →
      ∀ (i : Nat) (hi : i < (xs ++ ys).length), K.R α (xs ++ ys)[i] (((pre ++ vs).drop (i * K.sz)).take K.sz) := fun pre hp hR i hi => by
    by_cases hlt : i < xs.length
    · have : (i + 1) * K.sz ≤ xs.length * K.sz := Nat.mul_le_mul_right _ hlt
      rw [Nat.succ_mul] at this
      rw [List.getElem_append_left hlt, List.drop_append_of_le_length (by omega), List.take_append_of_le_length (by simp; omega)]
      exact hR i hlt
    · rw [List.getElem_append_right (by omega)]
      have e2 : i * K.sz = pre.length + (i - xs.length) * K.sz := by rw [hp, ← Nat.add_mul]; congr 1; omega
      rw [e2, List.drop_append]
      have : pre.drop (pre.length + (i - xs.length) * K.sz) = [] := List.drop_eq_nil_of_le (by omega)
      rw [this, List.nil_append, Nat.add_sub_cancel_left]
      exact hv3 _ (by simp at hi; omega)
  rcases h with ⟨rfl, rfl⟩ | ⟨id, c, b, rfl, h2, h3, h4, h5, h6, h7, h8⟩
  · by_cases hn : ys.length = 0
    · refine ⟨.slice none 0 0, α, ?_, .inl ⟨rfl, by simpa using hn⟩, .refl _ _, .refl _ _⟩
      simp only [aappend, hu, hz, hs, hv1]
      rw [if_pos ⟨hseq, hz3, by rw [hb]; exact hb0⟩, if_pos hn]
    · refine ⟨.slice (some ⟨α.n, 0, none⟩) ys.length 0, α.alloc ⟨vs, e, true⟩, ?_, ?_, (Fr.refl _ _).alloc hN _, (Kp.refl _ _).alloc (Nat.le_refl _) _⟩
      · simp only [aappend, hu, hz, hs, hv1]
        rw [if_pos ⟨hseq, hz3, by rw [hb]; exact hb0⟩, if_neg hn, if_pos (by rw [hb]; simpa using hl)]
      · refine .inr ⟨α.n, 0, _, by simp, hN, by simp, AH.alloc_get _ _, rfl, rfl, by simp [hv2], fun i hi => K.fr ((Fr.refl _ _).alloc (Nat.le_refl _) _) ?_⟩
        have := both [] (by simp) (fun i hi => by simp at hi) i hi
        simpa using this
  · refine ⟨.slice (some ⟨α.n, 0, none⟩) (xs.length + ys.length) 0, (α.set id none).alloc ⟨(b.cells.drop 0).take (xs.length * K.sz) ++ vs, e, true⟩, ?_, ?_, ((Fr.refl N α).set h2 none).alloc hN _, (Kp.set h4 h5 none).alloc (Nat.le_refl _) _⟩
    · simp only [aappend, hu, hz, hs, hv1, h4]
      rw [if_pos ⟨hseq, hz3, by rw [hb]; exact hb0⟩, if_pos ⟨h6, h5, by omega, by rw [hb]; exact hl⟩]
    · have hpre : ((b.cells.drop 0).take (xs.length * K.sz)).length = xs.length * K.sz := by simp; omega
      refine .inr ⟨α.n, 0, ⟨(b.cells.drop 0).take (xs.length * K.sz) ++ vs, e, true⟩, by simp, hN, by simp, by rw [show α.n = (α.set id none).n from rfl]; exact AH.alloc_get _ _, rfl, rfl, ?_, fun i hi => K.fr (α := α.set id none) ((Fr.refl _ _).alloc (Nat.le_refl _) _) (hk α id b none _ _ h4 h5 ?_)⟩
      · show (xs ++ ys).length * K.sz ≤ ((b.cells.drop 0).take (xs.length * K.sz) ++ vs).length
        rw [List.length_append, List.length_append, hpre, hv2, Nat.add_mul]; exact Nat.le_refl _
      · refine both _ hpre (fun i hi => ?_) i hi
        have : (i + 1) * K.sz ≤ xs.length * K.sz := Nat.mul_le_mul_right _ hi
        rw [Nat.succ_mul] at this
        rw [List.drop_zero, List.drop_take, List.take_take, Nat.min_eq_left (by omega)]
        exact h8 i hi
end Go.Lay
