/- Contracts: horariumlaw3.tape; Tape.Table. -/
import Derived.Test.YtggkeldedennfaaNj
set_option linter.unusedVariables false
set_option linter.unusedSimpArgs false
namespace Go.Proofs.Ytggkeldedennfaa
open Go Go.RowKit Go.Lay Go.Nod

theorem Ow.frx {τ : Type} {N : Nat} {e : TypeId} {K : Kd τ} {α α' : AH} {v : Value} {xs : List τ} {id : Nat} (h : Ow N e K α v xs) (hf : FrX id α α') (hid : id < N) (hk : ∀ x c, K.R α x c → K.R α' x c) : Ow N e K α' v xs := by
  rcases h with h | ⟨i, c, b, h1, h2, h3, h4, h5, h6, h7, h8⟩
  · exact .inl h
  · exact .inr ⟨i, c, b, h1, h2, Nat.lt_of_lt_of_le h3 hf.n, by rw [hf.get i h3 (by omega)]; exact h4, h5, h6, h7, fun j hj => hk _ _ (h8 j hj)⟩
theorem Sl.kp {τ : Type} {e e' : TypeId} {K : Kd τ} {α α' : AH} {v : Value} {xs : List τ} (h : Sl e K α v xs) (hf : Kp e' α α') (hn : α.n ≤ α'.n) (hne : e ≠ e') (hk : ∀ x c, K.R α x c → K.R α' x c) : Sl e K α' v xs := by
  rcases h with h | ⟨i, off, c, b, h1, h2, h3, h4, h5, h6⟩
  · exact .inl h
  · exact .inr ⟨i, off, c, b, h1, Nat.lt_of_lt_of_le h2 hn, hf i b h3 (by rw [h4]; exact hne) h2, h4, h5, fun j hj => hk _ _ (h6 j hj)⟩
theorem IsTape.kp {α α' : AH} {id : Nat} {L : List Int} {at_ : Int} {e : TypeId} (h : IsTape α id L at_) (hf : Kp e α α') (hn : α.n ≤ α'.n) (h1 : (31 : TypeId) ≠ e) (h2 : (3 : TypeId) ≠ e) : IsTape α' id L at_ := by
  obtain ⟨a1, a2, a3, a4, vL, a5, a6⟩ := h
  exact ⟨a1, a2, a3, Nat.lt_of_lt_of_le a4 hn, vL, hf id _ a5 h1 a4, Sl.kp a6 hf hn h2 fun _ _ h => h⟩
theorem FrX.fr {id N : Nat} {a b c : AH} (h : FrX id a b) (k : Fr N b c) (hn : a.n ≤ N) : FrX id a c := ⟨Nat.le_trans h.n k.n, fun i hi hne => (k.get i (by omega)).trans (h.get i hi hne)⟩
theorem flat_mono {τ : Type} {sz : Nat} {enc : τ → List Value} {h hc} {α α' : AH} : ∀ x c, (flatK (τ := τ) sz enc h hc).R α x c → (flatK sz enc h hc).R α' x c := fun _ _ h => h

set_option maxRecDepth 100000 in
theorem tape3_ok (k : Int) (α : AH) (hk : 0 ≤ k) (hk' : k ≤ 100) :
    NCalls Try.prog 22 [.int .i64 k] α (fun v α' => ∃ L, L.length = 400 ∧ Ow α.n 3 (intK .i64) α' v L ∧ Fr α.n α α') := by
  refine ncalls_of (by kernel_rfl) Try.func22 rfl (by rw [Try.ntmps22]; simp) ?_
  rw [Try.ntmps22, Try.results22]
  repeat (first
    | (refine nw_seq (nw_region fun K hK => ?_); simp []; refine hK _ _ ?_; clear hK K)
    | (refine nw_region fun K hK => ?_; simp []; refine hK _ _ ?_; clear hK K)
    | refine nw_seq ?_
    | refine nw_block ?_
    | (refine nw_yes ?_ ?_; focus (simp []; done))
    | (refine nw_no ?_ ?_; focus (simp []; done))
    | refine nw_skip ?_
    | refine nw_exit ?_
    | refine nw_ret ?_)
  refine nw_loop (fun n s α' => ∃ (i : Nat) (L : List Int), n = 400 - i ∧ i ≤ 400 ∧ L.length = i ∧ s 0 = .int .i64 k ∧ s 4 = .int .i64 (i : Int) ∧ Ow α.n 3 (intK .i64) α' (s 3) L ∧ Fr α.n α α')
    400 ⟨0, [], rfl, by omega, rfl, by simp, by simp, by simp; exact .nil, .refl _ _⟩ ?_
  rintro n s α' ⟨i, L, rfl, hi, hL, s0, s4, ho, hf⟩
  by_cases c : i < 400
  · have c' : (i : Int) < 400 := by omega
    have q1 : (i : Int) * i ≤ 400 * 400 := Int.mul_le_mul (by omega) (by omega) (by omega) (by omega)
    have q0 : 0 ≤ (i : Int) * i := Int.mul_nonneg (by omega) (by omega)
    have q2 : (i : Int) * k ≤ 400 * 100 := Int.mul_le_mul (by omega) (by omega) (by omega) (by omega)
    have q3 : 0 ≤ (i : Int) * k := Int.mul_nonneg (by omega) (by omega)
    have e1 : IntKind.i64.wrap ((i : Int) * i) = (i : Int) * i := w64 (by omega)
    have e2 : IntKind.i64.wrap ((i : Int) * i * 7) = (i : Int) * i * 7 := w64 (by omega)
    have e3 : IntKind.i64.wrap (k * 23) = k * 23 := w64 (by omega)
    have e4 : IntKind.i64.wrap ((i : Int) * i * 7 + k * 23) = (i : Int) * i * 7 + k * 23 := w64 (by omega)
    have e5 : IntKind.i64.wrap ((i : Int) * k) = (i : Int) * k := w64 (by omega)
    have e6 : IntKind.i64.wrap ((i : Int) * i * 7 + k * 23 + (i : Int) * k) = (i : Int) * i * 7 + k * 23 + (i : Int) * k := w64 (by omega)
    have e8 : IntKind.i64.wrap ((i : Int) + 1) = (i : Int) + 1 := w64 (by omega)
    generalize hq : (i : Int) * i * 7 + k * 23 + (i : Int) * k = q at *
    have m1 : 0 ≤ q.tmod 211 := Int.tmod_nonneg _ (by omega)
    have m2 : q.tmod 211 < 211 := Int.tmod_lt_of_pos q (by omega)
    have e7 : IntKind.i64.wrap (q.tmod 211) = q.tmod 211 := w64 (by omega)
    obtain ⟨v', α2, p1, p2, p3, -⟩ := ho.push el28 hf.n (x := q.tmod 211) (c := [.int .i64 (q.tmod 211)]) rfl (intK_apart _ _) (by omega) 0
    repeat (first
      | (refine nw_seq (nw_region fun K hK => ?_); simp [s0, s4, c', e1, e2, e3, e4, e5, e6, e7, e8, hq, p1]; refine hK _ _ ?_; clear hK K)
      | (refine nw_region fun K hK => ?_; simp [s0, s4, c', e1, e2, e3, e4, e5, e6, e7, e8, hq, p1]; refine hK _ _ ?_; clear hK K)
      | refine nw_seq ?_
      | refine nw_block ?_
      | (refine nw_yes ?_ ?_; focus (simp [s0, s4, c', e1, e2, e3, e4, e5, e6, e7, e8, hq, p1]; done))
      | (refine nw_no ?_ ?_; focus (simp [s0, s4, c', e1, e2, e3, e4, e5, e6, e7, e8, hq, p1]; done))
      | refine nw_skip ?_
      | refine nw_exit ?_
      | refine nw_ret ?_)
    exact ⟨400 - (i + 1), by omega, i + 1, L ++ [q.tmod 211], rfl, by omega, by simp [hL], by simp [s0], by simp, by simp; exact p2, hf.trans p3⟩
  · have : i = 400 := by omega
    subst this
    repeat (first
      | (refine nw_seq (nw_region fun K hK => ?_); simp [s4]; refine hK _ _ ?_; clear hK K)
      | (refine nw_region fun K hK => ?_; simp [s4]; refine hK _ _ ?_; clear hK K)
      | refine nw_seq ?_
      | refine nw_block ?_
      | (refine nw_yes ?_ ?_; focus (simp [s4]; done))
      | (refine nw_no ?_ ?_; focus (simp [s4]; done))
      | refine nw_skip ?_
      | refine nw_exit ?_
      | refine nw_ret ?_)
    simp
    exact ⟨L, hL, ho, hf⟩
end Go.Proofs.Ytggkeldedennfaa
