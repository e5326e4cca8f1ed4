/- Contracts: node.Depth, Length, Right, Same. -/
import Derived.Test.YtggkeldedennfaaNc
set_option linter.unusedVariables false
set_option linter.unusedSimpArgs false
namespace Go.Nod
theorem F.n_pos : ∀ f : F, f.ok → ∀ x ∈ f.flat, 1 ≤ x.n
  | .nil, _, x, h => by simp [F.flat] at h
  | .cons y ks r, ⟨h1, h2, h3⟩, x, h => by
    simp only [F.flat, List.mem_cons, List.mem_append] at h
    rcases h with rfl | h | h
    · exact kids_n h1
    · exact F.n_pos ks h2 x h
    · exact F.n_pos r h3 x h
/-- What a table is judged to be. -/
def Judged (xs : List Nd) (w : Bool) (d len : Int) : Prop :=
  (w = false ∧ ¬ (sizeM xs 0 = xs.length ∧ 0 < xs.length) ∧ d = 0 ∧ len = 0) ∨
  (w = true ∧ sizeM xs 0 = xs.length ∧ 0 < xs.length ∧ ∃ x ks, (F.cons x ks .nil).ok ∧ xs = x :: ks.flat ∧ d = ks.dep + 1 ∧ len = min 4097 (val x ks.len))
theorem judged (xs : List Nd) : ∃ w d len, Judged xs w d len := by
  by_cases h : sizeM xs 0 = xs.length ∧ 0 < xs.length
  · obtain ⟨j, x, ks, hj, ha⟩ := size_at (l := xs) (i := 0) (by omega)
    have hj : j = 0 := by omega
    subst hj
    have hs : sizeM xs 0 = ks.flat.length + 1 := ha.size
    have hl := h.1
    obtain ⟨h1, ys, h2⟩ := ha
    have : ys = [] := by
      have := congrArg List.length h2
      simp at this
      exact List.length_eq_zero_iff.1 (by omega)
    subst this
    exact ⟨true, _, _, .inr ⟨rfl, h.1, h.2, x, ks, h1, by simpa using h2, rfl, rfl⟩⟩
  · exact ⟨false, 0, 0, .inl ⟨rfl, h, rfl, rfl⟩⟩
def rightM (n : Nat) (w : Bool) (d len : Int) : Int := if 128 < (n : Int) then 3 else if w = false then 12 else if 16 < d then 14 else if 4096 < len then 18 else 0
end Go.Nod
namespace Go.Proofs.Ytggkeldedennfaa
open Go Go.RowKit Go.Lay Go.Nod

theorem mm_ok (xs : List Nd) {d len : Int} (hj : Judged xs true d len) (α : AH) (v : Value) (h : Nodes α v xs) (hl : xs.length ≤ 1000000000) :
    NCalls Try.prog 53 [v] α (fun r α' => r = .tuple #[.int .i64 d, .int .i64 len] ∧ Fr α.n α α') := by
  rcases hj with ⟨h0, _⟩ | ⟨_, _, _, x, ks, h1, rfl, rfl, rfl⟩
  · cases h0
  · refine (measure_ok _ ⟨⟨0, 0, 0⟩, 0, ks.dep + 1, min 4097 (val x ks.len)⟩ α v h hl ?_ (fold_whole h1 (by simp at hl; omega) _)).mono fun r β hr => hr
    intro y hy
    exact F.n_pos _ h1 y (by simpa [F.flat] using hy)
theorem wh_ok (xs : List Nd) {w : Bool} {d len : Int} (hj : Judged xs w d len) (α : AH) (v : Value) (h : Nodes α v xs) (hl : xs.length ≤ 1000000000) :
    NCalls Try.prog 51 [v] α (fun r α' => r = .bool w ∧ Fr α.n α α') := by
  refine (whole_ok xs α v h (by omega)).mono fun r β hr => ⟨?_, hr.2⟩
  rw [hr.1]
  rcases hj with ⟨rfl, h1, _⟩ | ⟨rfl, h1, h2, _⟩
  · simp [h1]
  · simp [h1]; exact h2

theorem depth_ok (xs : List Nd) {w : Bool} {d len : Int} (hj : Judged xs w d len) (α : AH) (v : Value) (h : Nodes α v xs) (hl : xs.length ≤ 1000000000) :
    NCalls Try.prog 32 [v] α (fun r α' => r = .int .i64 d ∧ Fr α.n α α') := by
  refine ncalls_of (by kernel_rfl) Try.func32 rfl (by rw [Try.ntmps32]; simp) ?_
  rw [Try.ntmps32, Try.results32]
  repeat (first
    | (refine nw_seq (nw_region fun K hK => ?_); simp []; refine hK _ _ ?_; clear hK K)
    | (refine nw_region fun K hK => ?_; simp []; refine hK _ _ ?_; clear hK K)
    | refine nw_seq ?_
    | refine nw_block ?_
    | (refine nw_yes ?_ ?_; focus (simp []; done))
    | (refine nw_no ?_ ?_; focus (simp []; done))
    | refine nw_skip ?_
    | refine nw_exit ?_
    | refine nw_ret ?_)
  refine nw_region fun K hK => ?_
  simp []
  refine (wh_ok xs hj _ v h hl).mono fun r β hr => ?_
  obtain ⟨rfl, hf⟩ := hr
  simp [contK, ]
  refine hK _ _ ?_
  clear hK K
  cases w with
  | false =>
    repeat (first
      | (refine nw_seq (nw_region fun K hK => ?_); simp []; refine hK _ _ ?_; clear hK K)
      | (refine nw_region fun K hK => ?_; simp []; refine hK _ _ ?_; clear hK K)
      | refine nw_seq ?_
      | refine nw_block ?_
      | (refine nw_yes ?_ ?_; focus (simp []; done))
      | (refine nw_no ?_ ?_; focus (simp []; done))
      | refine nw_skip ?_
      | refine nw_exit ?_
      | refine nw_ret ?_)
    have : d = 0 := by
      rcases hj with ⟨_, _, h0, _⟩ | ⟨h0, _⟩
      · exact h0
      · cases h0
    simp [this, hf]
  | true =>
    repeat (first
      | (refine nw_seq (nw_region fun K hK => ?_); simp []; refine hK _ _ ?_; clear hK K)
      | (refine nw_region fun K hK => ?_; simp []; refine hK _ _ ?_; clear hK K)
      | refine nw_seq ?_
      | refine nw_block ?_
      | (refine nw_yes ?_ ?_; focus (simp []; done))
      | (refine nw_no ?_ ?_; focus (simp []; done))
      | refine nw_skip ?_
      | refine nw_exit ?_
      | refine nw_ret ?_)
    refine nw_region fun K hK => ?_
    simp []
    refine (mm_ok xs hj _ v (h.fr hf) hl).mono fun r β' hr => ?_
    obtain ⟨rfl, hf'⟩ := hr
    simp [contK, ]
    refine hK _ _ ?_
    clear hK K
    repeat (first
      | (refine nw_seq (nw_region fun K hK => ?_); simp []; refine hK _ _ ?_; clear hK K)
      | (refine nw_region fun K hK => ?_; simp []; refine hK _ _ ?_; clear hK K)
      | refine nw_seq ?_
      | refine nw_block ?_
      | (refine nw_yes ?_ ?_; focus (simp []; done))
      | (refine nw_no ?_ ?_; focus (simp []; done))
      | refine nw_skip ?_
      | refine nw_exit ?_
      | refine nw_ret ?_)
    simp
    exact Fr.up hf hf'

theorem length_ok (xs : List Nd) {w : Bool} {d len : Int} (hj : Judged xs w d len) (α : AH) (v : Value) (h : Nodes α v xs) (hl : xs.length ≤ 1000000000) :
    NCalls Try.prog 31 [v] α (fun r α' => r = .tuple #[.int .i64 (if len ≤ 4096 then len else 0), .bool (w && decide (len ≤ 4096))] ∧ Fr α.n α α') := by
  refine ncalls_of (by kernel_rfl) Try.func31 rfl (by rw [Try.ntmps31]; simp) ?_
  rw [Try.ntmps31, Try.results31]
  repeat (first
    | (refine nw_seq (nw_region fun K hK => ?_); simp []; refine hK _ _ ?_; clear hK K)
    | (refine nw_region fun K hK => ?_; simp []; refine hK _ _ ?_; clear hK K)
    | refine nw_seq ?_
    | refine nw_block ?_
    | (refine nw_yes ?_ ?_; focus (simp []; done))
    | (refine nw_no ?_ ?_; focus (simp []; done))
    | refine nw_skip ?_
    | refine nw_exit ?_
    | refine nw_ret ?_)
  refine nw_region fun K hK => ?_
  simp []
  refine (wh_ok xs hj _ v h hl).mono fun r β hr => ?_
  obtain ⟨rfl, hf⟩ := hr
  simp [contK, ]
  refine hK _ _ ?_
  clear hK K
  cases w with
  | false =>
    repeat (first
      | (refine nw_seq (nw_region fun K hK => ?_); simp []; refine hK _ _ ?_; clear hK K)
      | (refine nw_region fun K hK => ?_; simp []; refine hK _ _ ?_; clear hK K)
      | refine nw_seq ?_
      | refine nw_block ?_
      | (refine nw_yes ?_ ?_; focus (simp []; done))
      | (refine nw_no ?_ ?_; focus (simp []; done))
      | refine nw_skip ?_
      | refine nw_exit ?_
      | refine nw_ret ?_)
    have : len = 0 := by
      rcases hj with ⟨_, _, _, h0⟩ | ⟨h0, _⟩
      · exact h0
      · cases h0
    simp [this, hf]
  | true =>
    repeat (first
      | (refine nw_seq (nw_region fun K hK => ?_); simp []; refine hK _ _ ?_; clear hK K)
      | (refine nw_region fun K hK => ?_; simp []; refine hK _ _ ?_; clear hK K)
      | refine nw_seq ?_
      | refine nw_block ?_
      | (refine nw_yes ?_ ?_; focus (simp []; done))
      | (refine nw_no ?_ ?_; focus (simp []; done))
      | refine nw_skip ?_
      | refine nw_exit ?_
      | refine nw_ret ?_)
    refine nw_region fun K hK => ?_
    simp []
    refine (mm_ok xs hj _ v (h.fr hf) hl).mono fun r β' hr => ?_
    obtain ⟨rfl, hf'⟩ := hr
    simp [contK, ]
    refine hK _ _ ?_
    clear hK K
    by_cases c : len ≤ 4096
    ·
      repeat (first
        | (refine nw_seq (nw_region fun K hK => ?_); simp [c]; refine hK _ _ ?_; clear hK K)
        | (refine nw_region fun K hK => ?_; simp [c]; refine hK _ _ ?_; clear hK K)
        | refine nw_seq ?_
        | refine nw_block ?_
        | (refine nw_yes ?_ ?_; focus (simp [c]; done))
        | (refine nw_no ?_ ?_; focus (simp [c]; done))
        | refine nw_skip ?_
        | refine nw_exit ?_
        | refine nw_ret ?_)
      simp [c]
      exact Fr.up hf hf'
    ·
      repeat (first
        | (refine nw_seq (nw_region fun K hK => ?_); simp [c]; refine hK _ _ ?_; clear hK K)
        | (refine nw_region fun K hK => ?_; simp [c]; refine hK _ _ ?_; clear hK K)
        | refine nw_seq ?_
        | refine nw_block ?_
        | (refine nw_yes ?_ ?_; focus (simp [c]; done))
        | (refine nw_no ?_ ?_; focus (simp [c]; done))
        | refine nw_skip ?_
        | refine nw_exit ?_
        | refine nw_ret ?_)
      simp [c]
      exact Fr.up hf hf'

theorem right_ok (xs : List Nd) {w : Bool} {d len : Int} (hj : Judged xs w d len) (α : AH) (v : Value) (h : Nodes α v xs) (hl : xs.length ≤ 1000000000) :
    NCalls Try.prog 27 [v] α (fun r α' => r = .int .i64 (rightM xs.length w d len) ∧ Fr α.n α α') := by
  obtain ⟨id, off, hlen, hidx, hld⟩ := h.rd (t := 49) Try.underlying49 sz55
  refine ncalls_of (by kernel_rfl) Try.func27 rfl (by rw [Try.ntmps27]; simp) ?_
  rw [Try.ntmps27, Try.results27]
  repeat (first
    | (refine nw_seq (nw_region fun K hK => ?_); simp []; refine hK _ _ ?_; clear hK K)
    | (refine nw_region fun K hK => ?_; simp []; refine hK _ _ ?_; clear hK K)
    | refine nw_seq ?_
    | refine nw_block ?_
    | (refine nw_yes ?_ ?_; focus (simp []; done))
    | (refine nw_no ?_ ?_; focus (simp []; done))
    | refine nw_skip ?_
    | refine nw_exit ?_
    | refine nw_ret ?_)
  refine nw_region fun K hK => ?_
  simp []
  refine (length_ok xs hj _ v h hl).mono fun r β hr => ?_
  obtain ⟨rfl, hf⟩ := hr
  simp [contK, ]
  refine hK _ _ ?_
  clear hK K
  by_cases c1 : 128 < (xs.length : Int)
  ·
    repeat (first
      | (refine nw_seq (nw_region fun K hK => ?_); simp [hlen, c1]; refine hK _ _ ?_; clear hK K)
      | (refine nw_region fun K hK => ?_; simp [hlen, c1]; refine hK _ _ ?_; clear hK K)
      | refine nw_seq ?_
      | refine nw_block ?_
      | (refine nw_yes ?_ ?_; focus (simp [hlen, c1]; done))
      | (refine nw_no ?_ ?_; focus (simp [hlen, c1]; done))
      | refine nw_skip ?_
      | refine nw_exit ?_
      | refine nw_ret ?_)
    simp [rightM, c1, hf]
  ·
    repeat (first
      | (refine nw_seq (nw_region fun K hK => ?_); simp [hlen, c1]; refine hK _ _ ?_; clear hK K)
      | (refine nw_region fun K hK => ?_; simp [hlen, c1]; refine hK _ _ ?_; clear hK K)
      | refine nw_seq ?_
      | refine nw_block ?_
      | (refine nw_yes ?_ ?_; focus (simp [hlen, c1]; done))
      | (refine nw_no ?_ ?_; focus (simp [hlen, c1]; done))
      | refine nw_skip ?_
      | refine nw_exit ?_
      | refine nw_ret ?_)
    refine nw_region fun K hK => ?_
    simp []
    refine (wh_ok xs hj _ v (h.fr hf) hl).mono fun r β' hr => ?_
    obtain ⟨rfl, hf'⟩ := hr
    have hf := Fr.up hf hf'
    simp [contK, ]
    refine hK _ _ ?_
    clear hK K
    cases w with
    | false =>
      repeat (first
        | (refine nw_seq (nw_region fun K hK => ?_); simp []; refine hK _ _ ?_; clear hK K)
        | (refine nw_region fun K hK => ?_; simp []; refine hK _ _ ?_; clear hK K)
        | refine nw_seq ?_
        | refine nw_block ?_
        | (refine nw_yes ?_ ?_; focus (simp []; done))
        | (refine nw_no ?_ ?_; focus (simp []; done))
        | refine nw_skip ?_
        | refine nw_exit ?_
        | refine nw_ret ?_)
      simp [rightM, c1, hf]
    | true =>
      repeat (first
        | (refine nw_seq (nw_region fun K hK => ?_); simp []; refine hK _ _ ?_; clear hK K)
        | (refine nw_region fun K hK => ?_; simp []; refine hK _ _ ?_; clear hK K)
        | refine nw_seq ?_
        | refine nw_block ?_
        | (refine nw_yes ?_ ?_; focus (simp []; done))
        | (refine nw_no ?_ ?_; focus (simp []; done))
        | refine nw_skip ?_
        | refine nw_exit ?_
        | refine nw_ret ?_)
      refine nw_region fun K hK => ?_
      simp []
      refine (depth_ok xs hj _ v (h.fr hf) hl).mono fun r β' hr => ?_
      obtain ⟨rfl, hf'⟩ := hr
      have hf := Fr.up hf hf'
      simp [contK, ]
      refine hK _ _ ?_
      clear hK K
      by_cases c2 : 16 < d
      ·
        repeat (first
          | (refine nw_seq (nw_region fun K hK => ?_); simp [c2]; refine hK _ _ ?_; clear hK K)
          | (refine nw_region fun K hK => ?_; simp [c2]; refine hK _ _ ?_; clear hK K)
          | refine nw_seq ?_
          | refine nw_block ?_
          | (refine nw_yes ?_ ?_; focus (simp [c2]; done))
          | (refine nw_no ?_ ?_; focus (simp [c2]; done))
          | refine nw_skip ?_
          | refine nw_exit ?_
          | refine nw_ret ?_)
        simp [rightM, c1, c2, hf]
      · by_cases c3 : len ≤ 4096
        · have c3' : ¬ (4096 < len) := by omega
          repeat (first
            | (refine nw_seq (nw_region fun K hK => ?_); simp [c2, c3]; refine hK _ _ ?_; clear hK K)
            | (refine nw_region fun K hK => ?_; simp [c2, c3]; refine hK _ _ ?_; clear hK K)
            | refine nw_seq ?_
            | refine nw_block ?_
            | (refine nw_yes ?_ ?_; focus (simp [c2, c3]; done))
            | (refine nw_no ?_ ?_; focus (simp [c2, c3]; done))
            | refine nw_skip ?_
            | refine nw_exit ?_
            | refine nw_ret ?_)
          simp [rightM, c1, c2, c3', hf]
        · have c3' : 4096 < len := by omega
          repeat (first
            | (refine nw_seq (nw_region fun K hK => ?_); simp [c2, c3]; refine hK _ _ ?_; clear hK K)
            | (refine nw_region fun K hK => ?_; simp [c2, c3]; refine hK _ _ ?_; clear hK K)
            | refine nw_seq ?_
            | refine nw_block ?_
            | (refine nw_yes ?_ ?_; focus (simp [c2, c3]; done))
            | (refine nw_no ?_ ?_; focus (simp [c2, c3]; done))
            | refine nw_skip ?_
            | refine nw_exit ?_
            | refine nw_ret ?_)
          simp [rightM, c1, c2, c3', hf]
end Go.Proofs.Ytggkeldedennfaa
