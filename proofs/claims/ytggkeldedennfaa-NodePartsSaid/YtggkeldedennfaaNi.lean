/- Contracts: horariumref3.Depth, Length, Right. -/
import Derived.Test.YtggkeldedennfaaNh
set_option linter.unusedVariables false
set_option linter.unusedSimpArgs false
namespace Go.Proofs.Ytggkeldedennfaa
open Go Go.RowKit Go.Lay Go.Nod

theorem judged_at0 {xs : List Nd} {d len : Int} (h : Judged xs true d len) : ∃ x ks, At xs 0 x ks ∧ d = ks.dep + 1 ∧ len = min 4097 (val x ks.len) := by
  rcases h with ⟨h0, _⟩ | ⟨_, _, _, x, ks, h1, rfl, rfl, rfl⟩
  · cases h0
  · exact ⟨x, ks, ⟨h1, [], by simp⟩, rfl, rfl⟩

set_option maxRecDepth 100000 in
theorem refDepth0_ok (xs : List Nd) {w : Bool} {d len : Int} (hj : Judged xs w d len) (α : AH) (v : Value) (h : Nodes α v xs) (hl : xs.length ≤ 1000000000) :
    NCalls Try.prog 47 [v] α (fun r α' => r = .int .i64 d ∧ Fr α.n α α') := by
  obtain ⟨id, off, hlen, hidx, hld⟩ := h.rd (t := 49) Try.underlying49 sz55
  refine ncalls_of (by kernel_rfl) Try.func47 rfl (by rw [Try.ntmps47]; simp) ?_
  rw [Try.ntmps47, Try.results47]
  by_cases c1 : xs.length = 0
  · have c1' : ((xs.length : Int) == 0) = true := by simp; exact List.length_eq_zero_iff.1 c1
    have c1'' : (xs.length : Int) = 0 := by omega
    have hd : d = 0 := by
      rcases hj with ⟨_, _, h0, _⟩ | ⟨_, _, h0, _⟩
      · exact h0
      · omega
    have hnil : xs = [] := List.length_eq_zero_iff.1 c1
    subst hnil
    repeat (first
      | (refine nw_seq (nw_region fun K hK => ?_); simp [hlen]; refine hK _ _ ?_; clear hK K)
      | (refine nw_region fun K hK => ?_; simp [hlen]; refine hK _ _ ?_; clear hK K)
      | refine nw_seq ?_
      | refine nw_block ?_
      | (refine nw_yes ?_ ?_; focus (simp [hlen]; done))
      | (refine nw_no ?_ ?_; focus (simp [hlen]; done))
      | refine nw_skip ?_
      | refine nw_exit ?_
      | refine nw_ret ?_)
    simp [hd, Fr.refl]
  · have c1' : ((xs.length : Int) == 0) = false := by simp; intro hh; subst hh; simp at c1
    have c1'' : ¬ ((xs.length : Int) = 0) := by omega
    have hnil : xs ≠ [] := fun hh => c1 (by rw [hh]; rfl)
    repeat (first
      | (refine nw_seq (nw_region fun K hK => ?_); simp []; refine hK _ _ ?_; clear hK K)
      | (refine nw_region fun K hK => ?_; simp []; refine hK _ _ ?_; clear hK K)
      | refine nw_seq ?_
      | refine nw_block ?_
      | (refine nw_yes ?_ ?_; focus (simp []; done))
      | (refine nw_no ?_ ?_; focus (simp []; done))
      | refine nw_skip ?_
      | refine nw_exit ?_
      | refine nw_ret ?_)
    refine nw_region fun K hK => ?_
    simp [hlen, c1', c1'', hnil]
    refine (refSize_ok xs 0 _ v h (by omega)).mono fun r β hr => ?_
    obtain ⟨rfl, hf⟩ := hr
    cases w with
    | false =>
      have hs : ¬ (sizeM xs 0 = xs.length) := by
        rcases hj with ⟨_, h0, _⟩ | ⟨h0, _⟩
        · exact fun hh => h0 ⟨hh, by omega⟩
        · cases h0
      have hs1 : (sizeM xs 0 == (xs.length : Int)) = false := by simpa using hs
      have hs2 : (sizeM xs 0 != (xs.length : Int)) = true := by simpa using hs
      have hd : d = 0 := by
        rcases hj with ⟨_, _, h0, _⟩ | ⟨h0, _⟩
        · exact h0
        · cases h0
      simp [contK, hlen, c1', c1'', hnil, hs1, hs2]
      refine hK _ _ ?_
      clear hK K
      repeat (first
        | (refine nw_seq (nw_region fun K hK => ?_); simp [hs1, hs2]; refine hK _ _ ?_; clear hK K)
        | (refine nw_region fun K hK => ?_; simp [hs1, hs2]; refine hK _ _ ?_; clear hK K)
        | refine nw_seq ?_
        | refine nw_block ?_
        | (refine nw_yes ?_ ?_; focus (simp [hs1, hs2]; done))
        | (refine nw_no ?_ ?_; focus (simp [hs1, hs2]; done))
        | refine nw_skip ?_
        | refine nw_exit ?_
        | refine nw_ret ?_)
      simp [hd, hf]
    | true =>
      have hs : sizeM xs 0 = xs.length := by
        rcases hj with ⟨h0, _⟩ | ⟨_, h0, _⟩
        · cases h0
        · exact h0
      obtain ⟨x, ks, hA, rfl, rfl⟩ := judged_at0 hj
      simp [contK, hlen, c1', c1'', hnil, hs]
      refine hK _ _ ?_
      clear hK K
      repeat (first
        | (refine nw_seq (nw_region fun K hK => ?_); simp []; refine hK _ _ ?_; clear hK K)
        | (refine nw_region fun K hK => ?_; simp []; refine hK _ _ ?_; clear hK K)
        | refine nw_seq ?_
        | refine nw_block ?_
        | (refine nw_yes ?_ ?_; focus (simp []; done))
        | (refine nw_no ?_ ?_; focus (simp []; done))
        | refine nw_skip ?_
        | refine nw_exit ?_
        | refine nw_ret ?_)
      refine nw_region fun K hK => ?_
      simp []
      refine (refDepth_ok _ xs 0 x ks _ v rfl (h.fr hf) (by omega) hA).mono fun r γ hr => ?_
      obtain ⟨rfl, hg⟩ := hr
      simp [contK, ]
      refine hK _ _ ?_
      clear hK K
      repeat (first
        | (refine nw_seq (nw_region fun K hK => ?_); simp []; refine hK _ _ ?_; clear hK K)
        | (refine nw_region fun K hK => ?_; simp []; refine hK _ _ ?_; clear hK K)
        | refine nw_seq ?_
        | refine nw_block ?_
        | (refine nw_yes ?_ ?_; focus (simp []; done))
        | (refine nw_no ?_ ?_; focus (simp []; done))
        | refine nw_skip ?_
        | refine nw_exit ?_
        | refine nw_ret ?_)
      simp
      exact Fr.up hf hg

set_option maxRecDepth 100000 in
theorem refLength0_ok (xs : List Nd) {w : Bool} {d len : Int} (hj : Judged xs w d len) (α : AH) (v : Value) (h : Nodes α v xs) (hl : xs.length ≤ 1000000000) :
    NCalls Try.prog 46 [v] α (fun r α' => r = .tuple #[.int .i64 (if len ≤ 4096 then len else 0), .bool (w && decide (len ≤ 4096))] ∧ Fr α.n α α') := by
  refine ncalls_of (by kernel_rfl) Try.func46 rfl (by rw [Try.ntmps46]; simp) ?_
  rw [Try.ntmps46, Try.results46]
  repeat (first
    | (refine nw_seq (nw_region fun K hK => ?_); simp []; refine hK _ _ ?_; clear hK K)
    | (refine nw_region fun K hK => ?_; simp []; refine hK _ _ ?_; clear hK K)
    | refine nw_seq ?_
    | refine nw_block ?_
    | (refine nw_yes ?_ ?_; focus (simp []; done))
    | (refine nw_no ?_ ?_; focus (simp []; done))
    | refine nw_skip ?_
    | refine nw_exit ?_
    | refine nw_ret ?_)
  refine nw_region fun K hK => ?_
  simp []
  refine (refDepth0_ok xs hj _ v h hl).mono fun r β hr => ?_
  obtain ⟨rfl, hf⟩ := hr
  cases w with
  | false =>
    have hd : d = 0 ∧ len = 0 := by
      rcases hj with ⟨_, _, h0, h1⟩ | ⟨h0, _⟩
      · exact ⟨h0, h1⟩
      · cases h0
    obtain ⟨rfl, rfl⟩ := hd
    simp [contK, ]
    refine hK _ _ ?_
    clear hK K
    repeat (first
      | (refine nw_seq (nw_region fun K hK => ?_); simp []; refine hK _ _ ?_; clear hK K)
      | (refine nw_region fun K hK => ?_; simp []; refine hK _ _ ?_; clear hK K)
      | refine nw_seq ?_
      | refine nw_block ?_
      | (refine nw_yes ?_ ?_; focus (simp []; done))
      | (refine nw_no ?_ ?_; focus (simp []; done))
      | refine nw_skip ?_
      | refine nw_exit ?_
      | refine nw_ret ?_)
    simp [hf]
  | true =>
    obtain ⟨x, ks, hA, rfl, rfl⟩ := judged_at0 hj
    have z1 : (((ks.dep : Int) + 1) == 0) = false := by simp; omega
    have z2 : ¬ ((ks.dep : Int) + 1 = 0) := by omega
    simp [contK, z1, z2]
    refine hK _ _ ?_
    clear hK K
    repeat (first
      | (refine nw_seq (nw_region fun K hK => ?_); simp []; refine hK _ _ ?_; clear hK K)
      | (refine nw_region fun K hK => ?_; simp []; refine hK _ _ ?_; clear hK K)
      | refine nw_seq ?_
      | refine nw_block ?_
      | (refine nw_yes ?_ ?_; focus (simp []; done))
      | (refine nw_no ?_ ?_; focus (simp []; done))
      | refine nw_skip ?_
      | refine nw_exit ?_
      | refine nw_ret ?_)
    refine nw_region fun K hK => ?_
    simp []
    refine (refLength_ok _ xs 0 x ks _ v rfl (h.fr hf) (by omega) hA).mono fun r γ hr => ?_
    obtain ⟨rfl, hg⟩ := hr
    simp [contK, ]
    refine hK _ _ ?_
    clear hK K
    generalize min 4097 (val x ks.len) = len at *
    by_cases c : len ≤ 4096
    · have c' : ¬ (4096 < len) := by omega
      repeat (first
        | (refine nw_seq (nw_region fun K hK => ?_); simp [c']; refine hK _ _ ?_; clear hK K)
        | (refine nw_region fun K hK => ?_; simp [c']; refine hK _ _ ?_; clear hK K)
        | refine nw_seq ?_
        | refine nw_block ?_
        | (refine nw_yes ?_ ?_; focus (simp [c']; done))
        | (refine nw_no ?_ ?_; focus (simp [c']; done))
        | refine nw_skip ?_
        | refine nw_exit ?_
        | refine nw_ret ?_)
      simp [c]
      exact Fr.up hf hg
    · have c' : 4096 < len := by omega
      repeat (first
        | (refine nw_seq (nw_region fun K hK => ?_); simp [c']; refine hK _ _ ?_; clear hK K)
        | (refine nw_region fun K hK => ?_; simp [c']; refine hK _ _ ?_; clear hK K)
        | refine nw_seq ?_
        | refine nw_block ?_
        | (refine nw_yes ?_ ?_; focus (simp [c']; done))
        | (refine nw_no ?_ ?_; focus (simp [c']; done))
        | refine nw_skip ?_
        | refine nw_exit ?_
        | refine nw_ret ?_)
      simp [c]
      exact Fr.up hf hg

set_option maxRecDepth 100000 in
theorem refRight0_ok (xs : List Nd) {w : Bool} {d len : Int} (hj : Judged xs w d len) (α : AH) (v : Value) (h : Nodes α v xs) (hl : xs.length ≤ 1000000000) :
    NCalls Try.prog 28 [v] α (fun r α' => r = .int .i64 (rightM xs.length w d len) ∧ Fr α.n α α') := by
  obtain ⟨id, off, hlen, hidx, hld⟩ := h.rd (t := 49) Try.underlying49 sz55
  refine ncalls_of (by kernel_rfl) Try.func28 rfl (by rw [Try.ntmps28]; simp) ?_
  rw [Try.ntmps28, Try.results28]
  by_cases c1 : 128 < (xs.length : Int)
  ·
    repeat (first
      | (refine nw_seq (nw_region fun K hK => ?_); simp [hlen, c1]; refine hK _ _ ?_; clear hK K)
      | (refine nw_region fun K hK => ?_; simp [hlen, c1]; refine hK _ _ ?_; clear hK K)
      | refine nw_seq ?_
      | refine nw_block ?_
      | (refine nw_yes ?_ ?_; focus (simp [hlen, c1]; done))
      | (refine nw_no ?_ ?_; focus (simp [hlen, c1]; done))
      | refine nw_skip ?_
      | refine nw_exit ?_
      | refine nw_ret ?_)
    simp [rightM, c1, Fr.refl]
  ·
    repeat (first
      | (refine nw_seq (nw_region fun K hK => ?_); simp [hlen, c1]; refine hK _ _ ?_; clear hK K)
      | (refine nw_region fun K hK => ?_; simp [hlen, c1]; refine hK _ _ ?_; clear hK K)
      | refine nw_seq ?_
      | refine nw_block ?_
      | (refine nw_yes ?_ ?_; focus (simp [hlen, c1]; done))
      | (refine nw_no ?_ ?_; focus (simp [hlen, c1]; done))
      | refine nw_skip ?_
      | refine nw_exit ?_
      | refine nw_ret ?_)
    refine nw_region fun K hK => ?_
    simp []
    refine (refDepth0_ok xs hj _ v h hl).mono fun r β hr => ?_
    obtain ⟨rfl, hf⟩ := hr
    cases w with
    | false =>
      have hd : d = 0 := by
        rcases hj with ⟨_, _, h0, h1⟩ | ⟨h0, _⟩
        · exact h0
        · cases h0
      subst hd
      simp [contK, ]
      refine hK _ _ ?_
      clear hK K
      repeat (first
        | (refine nw_seq (nw_region fun K hK => ?_); simp []; refine hK _ _ ?_; clear hK K)
        | (refine nw_region fun K hK => ?_; simp []; refine hK _ _ ?_; clear hK K)
        | refine nw_seq ?_
        | refine nw_block ?_
        | (refine nw_yes ?_ ?_; focus (simp []; done))
        | (refine nw_no ?_ ?_; focus (simp []; done))
        | refine nw_skip ?_
        | refine nw_exit ?_
        | refine nw_ret ?_)
      simp [rightM, c1, hf]
    | true =>
      obtain ⟨x, ks, hA, hd, hlen'⟩ := judged_at0 hj
      have z1 : (d == 0) = false := by simp; omega
      have z2 : ¬ (d = 0) := by omega
      simp [contK, z1, z2]
      refine hK _ _ ?_
      clear hK K
      repeat (first
        | (refine nw_seq (nw_region fun K hK => ?_); simp [z1, z2]; refine hK _ _ ?_; clear hK K)
        | (refine nw_region fun K hK => ?_; simp [z1, z2]; refine hK _ _ ?_; clear hK K)
        | refine nw_seq ?_
        | refine nw_block ?_
        | (refine nw_yes ?_ ?_; focus (simp [z1, z2]; done))
        | (refine nw_no ?_ ?_; focus (simp [z1, z2]; done))
        | refine nw_skip ?_
        | refine nw_exit ?_
        | refine nw_ret ?_)
      refine nw_region fun K hK => ?_
      simp []
      refine (refDepth0_ok xs hj _ v (h.fr hf) hl).mono fun r γ hr => ?_
      obtain ⟨rfl, hg⟩ := hr
      have hf := Fr.up hf hg
      simp [contK, ]
      refine hK _ _ ?_
      clear hK K
      by_cases c2 : 16 < d
      ·
        repeat (first
          | (refine nw_seq (nw_region fun K hK => ?_); simp [c2]; refine hK _ _ ?_; clear hK K)
          | (refine nw_region fun K hK => ?_; simp [c2]; refine hK _ _ ?_; clear hK K)
          | refine nw_seq ?_
          | refine nw_block ?_
          | (refine nw_yes ?_ ?_; focus (simp [c2]; done))
          | (refine nw_no ?_ ?_; focus (simp [c2]; done))
          | refine nw_skip ?_
          | refine nw_exit ?_
          | refine nw_ret ?_)
        simp [rightM, c1, c2, hf]
      ·
        repeat (first
          | (refine nw_seq (nw_region fun K hK => ?_); simp [c2]; refine hK _ _ ?_; clear hK K)
          | (refine nw_region fun K hK => ?_; simp [c2]; refine hK _ _ ?_; clear hK K)
          | refine nw_seq ?_
          | refine nw_block ?_
          | (refine nw_yes ?_ ?_; focus (simp [c2]; done))
          | (refine nw_no ?_ ?_; focus (simp [c2]; done))
          | refine nw_skip ?_
          | refine nw_exit ?_
          | refine nw_ret ?_)
        refine nw_region fun K hK => ?_
        simp []
        refine (refLength0_ok xs hj _ v (h.fr hf) hl).mono fun r γ hr => ?_
        obtain ⟨rfl, hg⟩ := hr
        have hf := Fr.up hf hg
        simp [contK, ]
        refine hK _ _ ?_
        clear hK K
        by_cases c3 : len ≤ 4096
        · have c3' : ¬ (4096 < len) := by omega
          repeat (first
            | (refine nw_seq (nw_region fun K hK => ?_); simp [c2, c3]; refine hK _ _ ?_; clear hK K)
            | (refine nw_region fun K hK => ?_; simp [c2, c3]; refine hK _ _ ?_; clear hK K)
            | refine nw_seq ?_
            | refine nw_block ?_
            | (refine nw_yes ?_ ?_; focus (simp [c2, c3]; done))
            | (refine nw_no ?_ ?_; focus (simp [c2, c3]; done))
            | refine nw_skip ?_
            | refine nw_exit ?_
            | refine nw_ret ?_)
          simp [rightM, c1, c2, c3', hf]
        · have c3' : 4096 < len := by omega
          repeat (first
            | (refine nw_seq (nw_region fun K hK => ?_); simp [c2, c3]; refine hK _ _ ?_; clear hK K)
            | (refine nw_region fun K hK => ?_; simp [c2, c3]; refine hK _ _ ?_; clear hK K)
            | refine nw_seq ?_
            | refine nw_block ?_
            | (refine nw_yes ?_ ?_; focus (simp [c2, c3]; done))
            | (refine nw_no ?_ ?_; focus (simp [c2, c3]; done))
            | refine nw_skip ?_
            | refine nw_exit ?_
            | refine nw_ret ?_)
          simp [rightM, c1, c2, c3', hf]
end Go.Proofs.Ytggkeldedennfaa
