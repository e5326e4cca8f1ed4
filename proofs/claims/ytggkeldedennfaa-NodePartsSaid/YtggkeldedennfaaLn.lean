/- The layer, part 11: rows of one's own: one more, one changed, cut off. -/
import Derived.Test.YtggkeldedennfaaLm
set_option linter.unusedVariables false
set_option linter.unusedSimpArgs false
namespace Go.Lay
open Go Go.RowKit
section
variable {τ : Type} {N : Nat} {e : TypeId} {K : Kd τ} {α : AH} {v : Value} {xs : List τ}
theorem Sl.one {x : τ} {c : List Value} (hx : K.R α x c) (cap : Nat) : Sl e K (α.alloc ⟨c, e, true⟩) (.slice (some ⟨α.n, 0, none⟩) 1 cap) [x] := by
  have hl := K.len hx
  refine .inr ⟨α.n, 0, cap, ⟨c, e, true⟩, rfl, by simp [AH.alloc], AH.alloc_get _ _, rfl, by simp [hl], fun i hi => ?_⟩
  have : i = 0 := by simp at hi; exact hi
  subst this
  have := K.fr ((Fr.refl _ _).alloc (Nat.le_refl _) ⟨c, e, true⟩) hx
  simpa [← hl] using this
/-- One more. -/
theorem Ow.push (h : Ow N e K α v xs) {P : Program} {t : TypeId} {by_ : Nat} (T : ElT P t e K.sz by_) (hN : N ≤ α.n) {x : τ} {c : List Value} (hx : K.R α x c) (hk : K.apart e) (hl : (xs.length + 1) * by_ ≤ 140737488355328) (cap : Nat) :
    ∃ v' α', aappend P #[t, t] v (.slice (some ⟨α.n, 0, none⟩) 1 cap) (α.alloc ⟨c, e, true⟩) = some (v', α') ∧ Ow N e K α' v' (xs ++ [x]) ∧ Fr N α α' ∧ Kp e α α' := by
  have hf : Fr α.n α (α.alloc ⟨c, e, true⟩) := (Fr.refl _ _).alloc (Nat.le_refl _) _
  obtain ⟨v', α', h1, h2, h3, h4⟩ := (h.fr hf).append T (Nat.le_trans hN hf.n) (Sl.one (e := e) hx cap) hk (by simpa using hl)
  exact ⟨v', α', h1, h2, (hf.mono hN).trans h3, (Kp.fr hf).trans h4 hf.n⟩
theorem Ow.one {x : τ} {c : List Value} (hN : N ≤ α.n) (hx : K.R α x c) (cap : Nat) : Ow N e K (α.alloc ⟨c, e, true⟩) (.slice (some ⟨α.n, 0, none⟩) 1 cap) [x] := by
  have hl := K.len hx
  refine .inr ⟨α.n, cap, ⟨c, e, true⟩, rfl, hN, by simp [AH.alloc], AH.alloc_get _ _, rfl, rfl, by simp [hl], fun i hi => ?_⟩
  have : i = 0 := by simp at hi; exact hi
  subst this
  have := K.fr ((Fr.refl _ _).alloc (Nat.le_refl _) ⟨c, e, true⟩) hx
  simpa [← hl] using this
theorem Ow.mem (h : Ow N e K α v xs) (hn : 0 < xs.length) : ∃ id c cs, v = .slice (some ⟨id, 0, none⟩) xs.length c ∧ N ≤ id ∧ id < α.n ∧ α.get id = some ⟨cs, e, true⟩ ∧ xs.length * K.sz ≤ cs.length ∧
    ∀ (i : Nat) (h : i < xs.length), K.R α xs[i] ((cs.drop (i * K.sz)).take K.sz) := by
  rcases h with ⟨_, rfl⟩ | ⟨id, c, b, h1, h2, h3, h4, h5, h6, h7, h8⟩
  · simp at hn
  · obtain ⟨cs, e', o⟩ := b
    subst h5; subst h6
    exact ⟨id, c, cs, h1, h2, h3, h4, h7, h8⟩
theorem Ow.mk {id c : Nat} {cs : List Value} (h2 : N ≤ id) (h3 : id < α.n) (h4 : α.get id = some ⟨cs, e, true⟩) (h7 : xs.length * K.sz ≤ cs.length) (h8 : ∀ (i : Nat) (h : i < xs.length), K.R α xs[i] ((cs.drop (i * K.sz)).take K.sz)) :
    Ow N e K α (.slice (some ⟨id, 0, none⟩) xs.length c) xs := .inr ⟨id, c, _, rfl, h2, h3, h4, rfl, rfl, h7, h8⟩
theorem mul_place {sz i j o p : Nat} (ho : o < sz) (hp : p < sz) (h : i * sz + o = j * sz + p) : i = j ∧ o = p := by
  have h1 : (i * sz + o) / sz = i := by rw [Nat.mul_comm, Nat.mul_add_div (by omega), Nat.div_eq_of_lt ho]; omega
  have h2 : (j * sz + p) / sz = j := by rw [Nat.mul_comm, Nat.mul_add_div (by omega), Nat.div_eq_of_lt hp]; omega
  have : i = j := by rw [← h1, ← h2, h]
  subst this
  exact ⟨rfl, by omega⟩
theorem set_window {cs : List Value} {i j o sz : Nat} {u : Value} (ho : o < sz) :
    ((cs.set (i * sz + o) u).drop (j * sz)).take sz = if i = j then ((cs.drop (j * sz)).take sz).set o u else (cs.drop (j * sz)).take sz := by
  apply List.ext_getElem?
  intro p
  by_cases hp : p < sz
  · rw [List.getElem?_take, if_pos hp, List.getElem?_drop, List.getElem?_set]
    by_cases hij : i = j
    · subst hij
      rw [if_pos rfl, List.getElem?_set]
      by_cases hop : o = p
      · subst hop
        simp [hp]
        by_cases hc : i * sz + o < cs.length
        · rw [if_pos hc, if_pos (by omega)]
        · rw [if_neg hc, if_neg (by omega)]
      · rw [if_neg (by omega), if_neg hop, List.getElem?_take, if_pos hp, List.getElem?_drop]
    · rw [if_neg hij, if_neg (fun h => hij (mul_place ho hp h).1), List.getElem?_take, if_pos hp, List.getElem?_drop]
  · have l1 : (((cs.set (i * sz + o) u).drop (j * sz)).take sz).length ≤ p := by simp; omega
    have l2 : ((cs.drop (j * sz)).take sz).length ≤ p := by simp; omega
    rw [List.getElem?_eq_none l1]
    split
    · rw [List.getElem?_eq_none (by simpa using l2)]
    · rw [List.getElem?_eq_none l2]
/-- One place of one element changed. -/
theorem Ow.put1 (hk : K.apart e) {id c : Nat} {cs : List Value} (h2 : N ≤ id) (h3 : id < α.n) (h4 : α.get id = some ⟨cs, e, true⟩) (h7 : xs.length * K.sz ≤ cs.length) (h8 : ∀ (i : Nat) (h : i < xs.length), K.R α xs[i] ((cs.drop (i * K.sz)).take K.sz))
    (i o : Nat) (ho : o < K.sz) (u : Value) (x' : τ) (hx : K.R α x' (((cs.drop (i * K.sz)).take K.sz).set o u)) (k : Nat) (hkk : k = i * K.sz + o) :
    Ow N e K (α.set id (some ⟨cs.set k u, e, true⟩)) (.slice (some ⟨id, 0, none⟩) xs.length c) (xs.set i x') := by
  subst hkk
  have := Ow.mk (N := N) (K := K) (xs := xs.set i x') (c := c) (α := α.set id (some ⟨cs.set (i * K.sz + o) u, e, true⟩)) h2 h3 (AH.set_get _ _ _) (by simpa using h7) fun j hj => by
    refine hk α id _ _ _ _ h4 rfl ?_
    rw [set_window ho]
    by_cases hij : i = j
    · subst hij
      simpa using hx
    · rw [if_neg hij]
      have := h8 j (by simpa using hj)
      rw [List.getElem_set_ne hij]
      exact this
  simpa using this
/-- A row cut off. -/
theorem Ow.cut {id c c' : Nat} (h : Ow N e K α (.slice (some ⟨id, 0, none⟩) xs.length c) xs) (n : Nat) (hn : n ≤ xs.length) : Ow N e K α (.slice (some ⟨id, 0, none⟩) n c') (xs.take n) := by
  rcases h with ⟨h, _⟩ | ⟨id', c'', b, h1, h2, h3, h4, h5, h6, h7, h8⟩
  · injection h with h; cases h
  · injection h1 with h1 _ _
    injection h1 with h1
    injection h1 with h1
    subst h1
    have hm : n * K.sz ≤ xs.length * K.sz := Nat.mul_le_mul_right _ hn
    refine .inr ⟨id, c', b, by simp [Nat.min_eq_left hn], h2, h3, h4, h5, h6, by simp [Nat.min_eq_left hn]; omega, fun i hi => ?_⟩
    rw [List.getElem_take]
    exact h8 i (by simp at hi; omega)
end
end Go.Lay
