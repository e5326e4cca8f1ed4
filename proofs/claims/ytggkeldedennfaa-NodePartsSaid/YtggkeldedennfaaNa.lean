/- Contracts: node.kids, Size, Kids, whole, add, times, Same. -/
import Derived.Test.YtggkeldedennfaaNp
import Derived.Test.YtggkeldedennfaaLn
import Derived.Test.YtggkeldedennfaaCa
set_option linter.unusedVariables false
set_option linter.unusedSimpArgs false
namespace Go.Proofs.Ytggkeldedennfaa
open Go Go.RowKit Go.Lay Go.Nod

theorem Fr.up {a b c : AH} (h : Fr a.n a b) (k : Fr b.n b c) : Fr a.n a c := h.trans (k.mono h.n)

set_option maxHeartbeats 1000000 in
theorem kids_ok (x : Nd) (α : AH) :
    NCalls Try.prog 52 [.agg #[.int .i64 x.k, .int .i64 x.p, .int .i64 x.n]] α (fun v α' => v = .int .i64 (kidsM x) ∧ Fr α.n α α') := by
  obtain ⟨k, p, n⟩ := x
  have hfr : ∀ b, Fr α.n α (α.alloc b) := fun b => (Fr.refl _ _).alloc (Nat.le_refl _) b
  refine ncalls_of (by kernel_rfl) Try.func52 rfl (by rw [Try.ntmps52]; simp) ?_
  rw [Try.ntmps52, Try.results52]
  by_cases c1 : n < 1 <;> by_cases c2 : k = 1 <;> by_cases c3 : p = 0 <;> by_cases c4 : k = 2 <;> by_cases c5 : k = 3 <;> by_cases c6 : k = 4 <;> by_cases c7 : 0 ≤ p <;> by_cases c8 : p < 6 <;> by_cases c9 : n ≤ 128 <;> first | (exfalso; omega) | skip
  all_goals
    repeat (first
      | (refine nw_seq (nw_region fun K hK => ?_); simp [c1, c2, c3, c4, c5, c6, c7, c8, c9]; refine hK _ _ ?_; clear hK K)
      | (refine nw_region fun K hK => ?_; simp [c1, c2, c3, c4, c5, c6, c7, c8, c9]; refine hK _ _ ?_; clear hK K)
      | refine nw_seq ?_
      | refine nw_block ?_
      | (refine nw_yes ?_ ?_; focus (simp [c1, c2, c3, c4, c5, c6, c7, c8, c9]; done))
      | (refine nw_no ?_ ?_; focus (simp [c1, c2, c3, c4, c5, c6, c7, c8, c9]; done))
      | refine nw_skip ?_
      | refine nw_exit ?_
      | refine nw_ret ?_)
  all_goals (simp [kidsM, c1, c2, c3, c4, c5, c6, c7, c8, c9]; try exact hfr _)

set_option maxRecDepth 100000 in
set_option maxHeartbeats 1000000 in
theorem size_ok (xs : List Nd) (at_ : Int) (α : AH) (v : Value) (h : Sl 55 nodeK α v xs) (hl : xs.length ≤ 1000000000000) :
    NCalls Try.prog 30 [v, .int .i64 at_] α (fun r α' => r = .int .i64 (sizeM xs at_) ∧ Fr α.n α α') := by
  obtain ⟨id, off, hlen, hidx, hld⟩ := h.rd (t := 49) Try.underlying49 sz55
  refine ncalls_of (by kernel_rfl) Try.func30 rfl (by rw [Try.ntmps30]; simp) ?_
  rw [Try.ntmps30, Try.results30]
  by_cases c1 : at_ < 0
  ·
    repeat (first
      | (refine nw_seq (nw_region fun K hK => ?_); simp [hlen, c1]; refine hK _ _ ?_; clear hK K)
      | (refine nw_region fun K hK => ?_; simp [hlen, c1]; refine hK _ _ ?_; clear hK K)
      | refine nw_seq ?_
      | refine nw_block ?_
      | (refine nw_yes ?_ ?_; focus (simp [hlen, c1]; done))
      | (refine nw_no ?_ ?_; focus (simp [hlen, c1]; done))
      | refine nw_skip ?_
      | refine nw_exit ?_
      | refine nw_ret ?_)
    simp [sizeM, c1, Fr.refl]
  by_cases c2 : (xs.length : Int) ≤ at_
  · have c1' : 0 ≤ at_ := by omega
    repeat (first
      | (refine nw_seq (nw_region fun K hK => ?_); simp [hlen, c1, c2, c1']; refine hK _ _ ?_; clear hK K)
      | (refine nw_region fun K hK => ?_; simp [hlen, c1, c2, c1']; refine hK _ _ ?_; clear hK K)
      | refine nw_seq ?_
      | refine nw_block ?_
      | (refine nw_yes ?_ ?_; focus (simp [hlen, c1, c2, c1']; done))
      | (refine nw_no ?_ ?_; focus (simp [hlen, c1, c2, c1']; done))
      | refine nw_skip ?_
      | refine nw_exit ?_
      | refine nw_ret ?_)
    simp [sizeM, c1, c2, Fr.refl]
  have c1' : 0 ≤ at_ := by omega
  have c2' : at_ < xs.length := by omega
  repeat (first
    | (refine nw_seq (nw_region fun K hK => ?_); simp [hlen, c1, c2, c1', c2']; refine hK _ _ ?_; clear hK K)
    | (refine nw_region fun K hK => ?_; simp [hlen, c1, c2, c1', c2']; refine hK _ _ ?_; clear hK K)
    | refine nw_seq ?_
    | refine nw_block ?_
    | (refine nw_yes ?_ ?_; focus (simp [hlen, c1, c2, c1', c2']; done))
    | (refine nw_no ?_ ?_; focus (simp [hlen, c1, c2, c1', c2']; done))
    | refine nw_skip ?_
    | refine nw_exit ?_
    | refine nw_ret ?_)
  have hk3 : nodeK.sz = 3 := rfl
  rw [hk3] at hidx hld
  refine nw_loop (fun n s α' => ∃ (i : Nat) (left : Int), n = xs.length - i ∧ i ≤ xs.length ∧ at_ ≤ i ∧ s 0 = v ∧ s 1 = .int .i64 at_ ∧ s 5 = .int .i64 left ∧ s 6 = .int .i64 (i : Int) ∧ Fr α.n α α' ∧ 1 ≤ left ∧ left ≤ 1 + 128 * i ∧ sizeM xs at_ = sizeGo (xs.drop i) left (i - at_))
    (xs.length - at_.toNat) ⟨at_.toNat, 1, rfl, by omega, by omega, by simp, by simp, by simp, by simp; omega, .refl _ _, by omega, by omega, ?_⟩ ?_
  · rw [sizeM, if_neg (by omega)]; congr 1; omega
  rintro n s α' ⟨i, left, rfl, hi, ha, s0, s1, s5, s6, hf, hb1, hb2, hm⟩
  by_cases c3 : i < xs.length
  · obtain ⟨b, hb, hfit, hR⟩ := hld α' hf i c3
    have hR : (b.cells.drop (off + i * 3)).take 3 = xs[i].enc := hR
    have hix := hidx .i64 i c3
    have hk := kidsM_bd xs[i]
    have e1 : IntKind.i64.wrap (kidsM xs[i] - 1) = kidsM xs[i] - 1 := w64 (by omega)
    have e2 : IntKind.i64.wrap (left + (kidsM xs[i] - 1)) = left + (kidsM xs[i] - 1) := w64 (by omega)
    have e3 : IntKind.i64.wrap ((i : Int) + 1) = (i : Int) + 1 := w64 (by omega)
    have e4 : IntKind.i64.wrap ((i : Int) + 1 - at_) = (i : Int) + 1 - at_ := w64 (by omega)
    have hgo : sizeGo (xs.drop i) left (i - at_) = if kidsM xs[i] < 0 then 0 else if left + (kidsM xs[i] - 1) = 0 then i - at_ + 1 else sizeGo (xs.drop (i + 1)) (left + (kidsM xs[i] - 1)) (i - at_ + 1) := by
      rw [List.drop_eq_getElem_cons c3, sizeGo]
    repeat (first
      | (refine nw_seq (nw_region fun K hK => ?_); simp [s0, s6, hlen, c3]; refine hK _ _ ?_; clear hK K)
      | (refine nw_region fun K hK => ?_; simp [s0, s6, hlen, c3]; refine hK _ _ ?_; clear hK K)
      | refine nw_seq ?_
      | refine nw_block ?_
      | (refine nw_yes ?_ ?_; focus (simp [s0, s6, hlen, c3]; done))
      | (refine nw_no ?_ ?_; focus (simp [s0, s6, hlen, c3]; done))
      | refine nw_skip ?_
      | refine nw_exit ?_
      | refine nw_ret ?_)
    refine nw_region fun K hK => ?_
    simp [s0, s6, hix, hb, hfit, hR, Nd.enc]
    refine (kids_ok _ _).mono fun r β hr => ?_
    obtain ⟨rfl, hfb'⟩ := hr
    have hfb := Fr.up hf hfb'
    simp [contK, ]
    refine hK _ _ ?_
    clear hK K
    generalize kidsM xs[i] = kk at *
    by_cases c4 : kk < 0
    ·
      repeat (first
        | (refine nw_seq (nw_region fun K hK => ?_); simp [c4]; refine hK _ _ ?_; clear hK K)
        | (refine nw_region fun K hK => ?_; simp [c4]; refine hK _ _ ?_; clear hK K)
        | refine nw_seq ?_
        | refine nw_block ?_
        | (refine nw_yes ?_ ?_; focus (simp [c4]; done))
        | (refine nw_no ?_ ?_; focus (simp [c4]; done))
        | refine nw_skip ?_
        | refine nw_exit ?_
        | refine nw_ret ?_)
      simp [hm, hgo, c4, hfb]
    by_cases c5 : left + (kk - 1) = 0
    ·
      repeat (first
        | (refine nw_seq (nw_region fun K hK => ?_); simp [c4, c5, s1, s5, s6, e1, e2, e3, e4]; refine hK _ _ ?_; clear hK K)
        | (refine nw_region fun K hK => ?_; simp [c4, c5, s1, s5, s6, e1, e2, e3, e4]; refine hK _ _ ?_; clear hK K)
        | refine nw_seq ?_
        | refine nw_block ?_
        | (refine nw_yes ?_ ?_; focus (simp [c4, c5, s1, s5, s6, e1, e2, e3, e4]; done))
        | (refine nw_no ?_ ?_; focus (simp [c4, c5, s1, s5, s6, e1, e2, e3, e4]; done))
        | refine nw_skip ?_
        | refine nw_exit ?_
        | refine nw_ret ?_)
      simp [hfb]
      rw [hm, hgo, if_neg c4, if_pos c5]
      omega
    ·
      repeat (first
        | (refine nw_seq (nw_region fun K hK => ?_); simp [c4, c5, s1, s5, s6, e1, e2, e3, e4]; refine hK _ _ ?_; clear hK K)
        | (refine nw_region fun K hK => ?_; simp [c4, c5, s1, s5, s6, e1, e2, e3, e4]; refine hK _ _ ?_; clear hK K)
        | refine nw_seq ?_
        | refine nw_block ?_
        | (refine nw_yes ?_ ?_; focus (simp [c4, c5, s1, s5, s6, e1, e2, e3, e4]; done))
        | (refine nw_no ?_ ?_; focus (simp [c4, c5, s1, s5, s6, e1, e2, e3, e4]; done))
        | refine nw_skip ?_
        | refine nw_exit ?_
        | refine nw_ret ?_)
      refine ⟨xs.length - (i + 1), by omega, i + 1, left + (kk - 1), rfl, by omega, by omega, ?_⟩
      simp [s0, s1, s5, s6, e1, e2, e3, e4, hfb]
      refine ⟨by omega, by omega, ?_⟩
      rw [hm, hgo, if_neg c4, if_neg c5]
      congr 1
      omega
  · have : i = xs.length := by omega
    repeat (first
      | (refine nw_seq (nw_region fun K hK => ?_); simp [s0, s6, hlen, c3]; refine hK _ _ ?_; clear hK K)
      | (refine nw_region fun K hK => ?_; simp [s0, s6, hlen, c3]; refine hK _ _ ?_; clear hK K)
      | refine nw_seq ?_
      | refine nw_block ?_
      | (refine nw_yes ?_ ?_; focus (simp [s0, s6, hlen, c3]; done))
      | (refine nw_no ?_ ?_; focus (simp [s0, s6, hlen, c3]; done))
      | refine nw_skip ?_
      | refine nw_exit ?_
      | refine nw_ret ?_)
    simp [hm, this, sizeGo, hf]
end Go.Proofs.Ytggkeldedennfaa
