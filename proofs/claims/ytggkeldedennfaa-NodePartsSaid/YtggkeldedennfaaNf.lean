/- Contracts: horariumref3.fine, Size, Kids, depth, length, Depth, Length, Right. -/
import Derived.Test.YtggkeldedennfaaNe
set_option linter.unusedVariables false
set_option linter.unusedSimpArgs false
namespace Go.Proofs.Ytggkeldedennfaa
open Go Go.RowKit Go.Lay Go.Nod

set_option maxHeartbeats 1000000 in
theorem fine_ok (x : Nd) (α : AH) :
    NCalls Try.prog 63 [.agg #[.int .i64 x.k, .int .i64 x.p, .int .i64 x.n]] α (fun v α' => v = .bool (decide (0 ≤ kidsM x)) ∧ Fr α.n α α') := by
  obtain ⟨k, p, n⟩ := x
  have hfr : ∀ b, Fr α.n α (α.alloc b) := fun b => (Fr.refl _ _).alloc (Nat.le_refl _) b
  refine ncalls_of (by kernel_rfl) Try.func63 rfl (by rw [Try.ntmps63]; simp) ?_
  rw [Try.ntmps63, Try.results63]
  obtain ⟨a1, b1⟩ | ⟨a1, b1⟩ : (n < 1 ∧ ¬ 1 ≤ n) ∨ (¬ n < 1 ∧ 1 ≤ n) := by omega
  all_goals
    by_cases c2 : k = 1 <;> by_cases c3 : p = 0 <;> by_cases c4 : k = 2 <;> by_cases c5 : k = 3 <;> by_cases c6 : k = 4 <;> by_cases c7 : 0 ≤ p <;> by_cases c8 : p < 6 <;> by_cases c9 : n ≤ 128 <;> first | (exfalso; omega) | skip
  all_goals
    repeat (first
      | (refine nw_seq (nw_region fun K hK => ?_); simp [a1, b1, c2, c3, c4, c5, c6, c7, c8, c9]; refine hK _ _ ?_; clear hK K)
      | (refine nw_region fun K hK => ?_; simp [a1, b1, c2, c3, c4, c5, c6, c7, c8, c9]; refine hK _ _ ?_; clear hK K)
      | refine nw_seq ?_
      | refine nw_block ?_
      | (refine nw_yes ?_ ?_; focus (simp [a1, b1, c2, c3, c4, c5, c6, c7, c8, c9]; done))
      | (refine nw_no ?_ ?_; focus (simp [a1, b1, c2, c3, c4, c5, c6, c7, c8, c9]; done))
      | refine nw_skip ?_
      | refine nw_exit ?_
      | refine nw_ret ?_)
  all_goals (simp [kidsM, a1, b1, c2, c3, c4, c5, c6, c7, c8, c9]; try exact hfr _)
  all_goals (first | omega | exact ⟨by omega, hfr _⟩)
end Go.Proofs.Ytggkeldedennfaa
