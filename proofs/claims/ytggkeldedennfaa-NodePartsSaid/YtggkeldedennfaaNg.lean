/- Contracts: horariumref3.Size, Kids. -/
import Derived.Test.YtggkeldedennfaaNf
set_option linter.unusedVariables false
set_option linter.unusedSimpArgs false
namespace Go.Nod
theorem kids_val {x : Nd} (h : 0 ≤ kidsM x) : (x.k = 3 → kidsM x = x.n) ∧ (x.k = 4 → kidsM x = 1) ∧ (x.k ≠ 3 → x.k ≠ 4 → kidsM x = 0) := by
  unfold kidsM at h ⊢
  split at h
  · omega
  · next c1 =>
    rw [if_neg c1]
    refine ⟨fun hk => ?_, fun hk => ?_, fun h3 h4 => ?_⟩
    · rw [if_neg (by omega)] at h ⊢
      split at h
      · next c2 => rw [if_pos c2]
      · rw [if_neg (by omega)] at h; omega
    · rw [if_neg (by omega), if_neg (by omega), if_pos hk]
    · split at h
      · next c2 => rw [if_pos c2]
      · rw [if_neg (by omega)] at h; omega
end Go.Nod
namespace Go.Proofs.Ytggkeldedennfaa
open Go Go.RowKit Go.Lay Go.Nod

set_option maxRecDepth 100000 in
set_option maxHeartbeats 1000000 in
theorem refSize_ok (xs : List Nd) (at_ : Int) (α : AH) (v : Value) (h : Nodes α v xs) (hl : xs.length ≤ 1000000000000) :
    NCalls Try.prog 48 [v, .int .i64 at_] α (fun r α' => r = .int .i64 (sizeM xs at_) ∧ Fr α.n α α') := by
  obtain ⟨id, off, hlen, hidx, hld⟩ := h.rd (t := 49) Try.underlying49 sz55
  refine ncalls_of (by kernel_rfl) Try.func48 rfl (by rw [Try.ntmps48]; simp) ?_
  rw [Try.ntmps48, Try.results48]
  by_cases c1 : at_ < 0
  ·
    repeat (first
      | (refine nw_seq (nw_region fun K hK => ?_); simp [hlen, c1]; refine hK _ _ ?_; clear hK K)
      | (refine nw_region fun K hK => ?_; simp [hlen, c1]; refine hK _ _ ?_; clear hK K)
      | refine nw_seq ?_
      | refine nw_block ?_
      | (refine nw_yes ?_ ?_; focus (simp [hlen, c1]; done))
      | (refine nw_no ?_ ?_; focus (simp [hlen, c1]; done))
      | refine nw_skip ?_
      | refine nw_exit ?_
      | refine nw_ret ?_)
    simp [sizeM, c1, Fr.refl]
  by_cases c2 : (xs.length : Int) ≤ at_
  · have c1' : 0 ≤ at_ := by omega
    repeat (first
      | (refine nw_seq (nw_region fun K hK => ?_); simp [hlen, c1, c2, c1']; refine hK _ _ ?_; clear hK K)
      | (refine nw_region fun K hK => ?_; simp [hlen, c1, c2, c1']; refine hK _ _ ?_; clear hK K)
      | refine nw_seq ?_
      | refine nw_block ?_
      | (refine nw_yes ?_ ?_; focus (simp [hlen, c1, c2, c1']; done))
      | (refine nw_no ?_ ?_; focus (simp [hlen, c1, c2, c1']; done))
      | refine nw_skip ?_
      | refine nw_exit ?_
      | refine nw_ret ?_)
    simp [sizeM, c1, c2, Fr.refl]
  have c1' : 0 ≤ at_ := by omega
  have c2' : at_ < xs.length := by omega
  repeat (first
    | (refine nw_seq (nw_region fun K hK => ?_); simp [hlen, c1, c2, c1', c2']; refine hK _ _ ?_; clear hK K)
    | (refine nw_region fun K hK => ?_; simp [hlen, c1, c2, c1', c2']; refine hK _ _ ?_; clear hK K)
    | refine nw_seq ?_
    | refine nw_block ?_
    | (refine nw_yes ?_ ?_; focus (simp [hlen, c1, c2, c1', c2']; done))
    | (refine nw_no ?_ ?_; focus (simp [hlen, c1, c2, c1', c2']; done))
    | refine nw_skip ?_
    | refine nw_exit ?_
    | refine nw_ret ?_)
  have hk3 : nodeK.sz = 3 := rfl
  rw [hk3] at hidx hld
  refine nw_loop (fun n s α' => ∃ (i : Nat) (left : Int), n = xs.length - i ∧ i ≤ xs.length ∧ at_ ≤ i ∧ s 0 = v ∧ s 1 = .int .i64 at_ ∧ s 5 = .int .i64 left ∧ s 6 = .int .i64 (i : Int) ∧ Fr α.n α α' ∧ 1 ≤ left ∧ left ≤ 1 + 128 * i ∧ sizeM xs at_ = sizeGo (xs.drop i) left (i - at_))
    (xs.length - at_.toNat) ⟨at_.toNat, 1, rfl, by omega, by omega, by simp, by simp, by simp, by simp; omega, .refl _ _, by omega, by omega, ?_⟩ ?_
  · rw [sizeM, if_neg (by omega)]; congr 1; omega
  rintro n s α' ⟨i, left, rfl, hi, ha, s0, s1, s5, s6, hf, hb1, hb2, hm⟩
  by_cases c3 : i < xs.length
  · obtain ⟨b, hb, hfit, hR⟩ := hld α' hf i c3
    have hR : (b.cells.drop (off + i * 3)).take 3 = xs[i].enc := hR
    have hix := hidx .i64 i c3
    have hk := kidsM_bd xs[i]
    have hgo : sizeGo (xs.drop i) left (i - at_) = if kidsM xs[i] < 0 then 0 else if left + (kidsM xs[i] - 1) = 0 then i - at_ + 1 else sizeGo (xs.drop (i + 1)) (left + (kidsM xs[i] - 1)) (i - at_ + 1) := by
      rw [List.drop_eq_getElem_cons c3, sizeGo]
    repeat (first
      | (refine nw_seq (nw_region fun K hK => ?_); simp [s0, s6, hlen, c3]; refine hK _ _ ?_; clear hK K)
      | (refine nw_region fun K hK => ?_; simp [s0, s6, hlen, c3]; refine hK _ _ ?_; clear hK K)
      | refine nw_seq ?_
      | refine nw_block ?_
      | (refine nw_yes ?_ ?_; focus (simp [s0, s6, hlen, c3]; done))
      | (refine nw_no ?_ ?_; focus (simp [s0, s6, hlen, c3]; done))
      | refine nw_skip ?_
      | refine nw_exit ?_
      | refine nw_ret ?_)
    refine nw_region fun K hK => ?_
    simp [s0, s6, hix, hb, hfit, hR, Nd.enc]
    refine (fine_ok _ _).mono fun r β hr => ?_
    obtain ⟨rfl, hfb'⟩ := hr
    have hfb := Fr.up hf hfb'
    simp [contK, ]
    refine hK _ _ ?_
    clear hK K
    obtain ⟨b2, hb2, _, hR2⟩ := hld β hfb i c3
    have x0 : b2.cells[off + i * 3]? = some (.int .i64 xs[i].k) := take_get hR2 (j := 0) (show 0 < 3 by decide)
    have x2 : b2.cells[off + i * 3 + 2]? = some (.int .i64 xs[i].n) := take_get hR2 (j := 2) (show 2 < 3 by decide)
    generalize hx : xs[i] = x at *
    by_cases c4 : kidsM x < 0
    · have c4' : ¬ (0 ≤ kidsM x) := by omega
      repeat (first
        | (refine nw_seq (nw_region fun K hK => ?_); simp [c4']; refine hK _ _ ?_; clear hK K)
        | (refine nw_region fun K hK => ?_; simp [c4']; refine hK _ _ ?_; clear hK K)
        | refine nw_seq ?_
        | refine nw_block ?_
        | (refine nw_yes ?_ ?_; focus (simp [c4']; done))
        | (refine nw_no ?_ ?_; focus (simp [c4']; done))
        | refine nw_skip ?_
        | refine nw_exit ?_
        | refine nw_ret ?_)
      simp [hm, hgo, c4, hfb]
    have c4' : 0 ≤ kidsM x := by omega
    obtain ⟨k1, k2, k3⟩ := kids_val c4'
    have e1 : IntKind.i64.wrap (left - 1) = left - 1 := w64 (by omega)
    have e3 : IntKind.i64.wrap ((i : Int) + 1) = (i : Int) + 1 := w64 (by omega)
    have e4 : IntKind.i64.wrap ((i : Int) - at_) = (i : Int) - at_ := w64 (by omega)
    have e5 : IntKind.i64.wrap ((i : Int) - at_ + 1) = (i : Int) - at_ + 1 := w64 (by omega)
    repeat (first
      | (refine nw_seq (nw_region fun K hK => ?_); simp [c4', s5, e1, s0, s6, hix, hb2, x0]; refine hK _ _ ?_; clear hK K)
      | (refine nw_region fun K hK => ?_; simp [c4', s5, e1, s0, s6, hix, hb2, x0]; refine hK _ _ ?_; clear hK K)
      | refine nw_seq ?_
      | refine nw_block ?_
      | (refine nw_yes ?_ ?_; focus (simp [c4', s5, e1, s0, s6, hix, hb2, x0]; done))
      | (refine nw_no ?_ ?_; focus (simp [c4', s5, e1, s0, s6, hix, hb2, x0]; done))
      | refine nw_skip ?_
      | refine nw_exit ?_
      | refine nw_ret ?_)
    refine nw_cut (J := fun s γ => γ = β ∧ s 0 = v ∧ s 1 = .int .i64 at_ ∧ s 5 = .int .i64 (left - 1 + (if x.k = 3 then x.n else 0)) ∧ s 6 = .int .i64 (i : Int)) ?_ ?_
    · by_cases d3 : x.k = 3
      · have hn := k1 d3
        have e6 : IntKind.i64.wrap (left - 1 + x.n) = left - 1 + x.n := w64 (by omega)
        repeat (first
          | (refine nw_seq (nw_region fun K hK => ?_); simp [s0, s6, hix, hb2, x2, d3, e6]; refine hK _ _ ?_; clear hK K)
          | (refine nw_region fun K hK => ?_; simp [s0, s6, hix, hb2, x2, d3, e6]; refine hK _ _ ?_; clear hK K)
          | refine nw_seq ?_
          | refine nw_block ?_
          | (refine nw_yes ?_ ?_; focus (simp [s0, s6, hix, hb2, x2, d3, e6]; done))
          | (refine nw_no ?_ ?_; focus (simp [s0, s6, hix, hb2, x2, d3, e6]; done))
          | refine nw_skip ?_
          | refine nw_exit ?_
          | refine nw_ret ?_)
        simp [s0, s1, s6, d3]
      ·
        repeat (first
          | (refine nw_seq (nw_region fun K hK => ?_); simp [d3]; refine hK _ _ ?_; clear hK K)
          | (refine nw_region fun K hK => ?_; simp [d3]; refine hK _ _ ?_; clear hK K)
          | refine nw_seq ?_
          | refine nw_block ?_
          | (refine nw_yes ?_ ?_; focus (simp [d3]; done))
          | (refine nw_no ?_ ?_; focus (simp [d3]; done))
          | refine nw_skip ?_
          | refine nw_exit ?_
          | refine nw_ret ?_)
        simp [s0, s1, s6, d3]
    clear s0 s1 s5 s6
    rintro s γ ⟨rfl, s0, s1, s5, s6⟩
    repeat (first
      | (refine nw_seq (nw_region fun K hK => ?_); simp [s0, s6, hix, hb2, x0]; refine hK _ _ ?_; clear hK K)
      | (refine nw_region fun K hK => ?_; simp [s0, s6, hix, hb2, x0]; refine hK _ _ ?_; clear hK K)
      | refine nw_seq ?_
      | refine nw_block ?_
      | (refine nw_yes ?_ ?_; focus (simp [s0, s6, hix, hb2, x0]; done))
      | (refine nw_no ?_ ?_; focus (simp [s0, s6, hix, hb2, x0]; done))
      | refine nw_skip ?_
      | refine nw_exit ?_
      | refine nw_ret ?_)
    refine nw_cut (J := fun s γ' => γ' = γ ∧ s 0 = v ∧ s 1 = .int .i64 at_ ∧ s 5 = .int .i64 (left + (kidsM x - 1)) ∧ s 6 = .int .i64 (i : Int)) ?_ ?_
    · by_cases d4 : x.k = 4
      · have hn := k2 d4
        have d3 : ¬ (x.k = 3) := by omega
        simp only [d3, if_false] at s5
        have e6 : IntKind.i64.wrap (left - 1 + 0 + 1) = left + (kidsM x - 1) := by rw [w64 (by omega)]; omega
        have e7 : IntKind.i64.wrap (left - 1 + 1) = left + (kidsM x - 1) := by rw [w64 (by omega)]; omega
        have e8 : IntKind.i64.wrap left = left + (kidsM x - 1) := by rw [w64 (by omega)]; omega
        repeat (first
          | (refine nw_seq (nw_region fun K hK => ?_); simp [d4, s5, e6, e7, e8]; refine hK _ _ ?_; clear hK K)
          | (refine nw_region fun K hK => ?_; simp [d4, s5, e6, e7, e8]; refine hK _ _ ?_; clear hK K)
          | refine nw_seq ?_
          | refine nw_block ?_
          | (refine nw_yes ?_ ?_; focus (simp [d4, s5, e6, e7, e8]; done))
          | (refine nw_no ?_ ?_; focus (simp [d4, s5, e6, e7, e8]; done))
          | refine nw_skip ?_
          | refine nw_exit ?_
          | refine nw_ret ?_)
        simp [s0, s1, s6]
      ·
        repeat (first
          | (refine nw_seq (nw_region fun K hK => ?_); simp [d4]; refine hK _ _ ?_; clear hK K)
          | (refine nw_region fun K hK => ?_; simp [d4]; refine hK _ _ ?_; clear hK K)
          | refine nw_seq ?_
          | refine nw_block ?_
          | (refine nw_yes ?_ ?_; focus (simp [d4]; done))
          | (refine nw_no ?_ ?_; focus (simp [d4]; done))
          | refine nw_skip ?_
          | refine nw_exit ?_
          | refine nw_ret ?_)
        simp [s0, s1, s6, s5]
        by_cases d3 : x.k = 3
        · rw [if_pos d3, k1 d3]; omega
        · rw [if_neg d3, k3 d3 d4]; omega
    clear s0 s1 s5 s6
    rintro s γ' ⟨rfl, s0, s1, s5, s6⟩
    by_cases c5 : left + (kidsM x - 1) = 0
    ·
      repeat (first
        | (refine nw_seq (nw_region fun K hK => ?_); simp [s5, s1, s6, c5, e4, e5]; refine hK _ _ ?_; clear hK K)
        | (refine nw_region fun K hK => ?_; simp [s5, s1, s6, c5, e4, e5]; refine hK _ _ ?_; clear hK K)
        | refine nw_seq ?_
        | refine nw_block ?_
        | (refine nw_yes ?_ ?_; focus (simp [s5, s1, s6, c5, e4, e5]; done))
        | (refine nw_no ?_ ?_; focus (simp [s5, s1, s6, c5, e4, e5]; done))
        | refine nw_skip ?_
        | refine nw_exit ?_
        | refine nw_ret ?_)
      simp [hfb]
      rw [hm, hgo, if_neg c4, if_pos c5]
    ·
      repeat (first
        | (refine nw_seq (nw_region fun K hK => ?_); simp [s5, s6, c5, e3]; refine hK _ _ ?_; clear hK K)
        | (refine nw_region fun K hK => ?_; simp [s5, s6, c5, e3]; refine hK _ _ ?_; clear hK K)
        | refine nw_seq ?_
        | refine nw_block ?_
        | (refine nw_yes ?_ ?_; focus (simp [s5, s6, c5, e3]; done))
        | (refine nw_no ?_ ?_; focus (simp [s5, s6, c5, e3]; done))
        | refine nw_skip ?_
        | refine nw_exit ?_
        | refine nw_ret ?_)
      refine ⟨xs.length - (i + 1), by omega, i + 1, left + (kidsM x - 1), rfl, by omega, by omega, ?_⟩
      simp [s0, s1, s5, hfb]
      refine ⟨by omega, by omega, ?_⟩
      rw [hm, hgo, if_neg c4, if_neg c5]
      congr 1
      omega
  · have : i = xs.length := by omega
    repeat (first
      | (refine nw_seq (nw_region fun K hK => ?_); simp [s0, s6, hlen, c3]; refine hK _ _ ?_; clear hK K)
      | (refine nw_region fun K hK => ?_; simp [s0, s6, hlen, c3]; refine hK _ _ ?_; clear hK K)
      | refine nw_seq ?_
      | refine nw_block ?_
      | (refine nw_yes ?_ ?_; focus (simp [s0, s6, hlen, c3]; done))
      | (refine nw_no ?_ ?_; focus (simp [s0, s6, hlen, c3]; done))
      | refine nw_skip ?_
      | refine nw_exit ?_
      | refine nw_ret ?_)
    simp [hm, this, sizeGo, hf]
end Go.Proofs.Ytggkeldedennfaa
