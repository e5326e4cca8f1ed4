/- Contracts: slices.Equal of nodes (node.Same); horariumbook.Same of ints. -/
import Derived.Test.YtggkeldedennfaaNd
set_option linter.unusedVariables false
set_option linter.unusedSimpArgs false
namespace Go.Proofs.Ytggkeldedennfaa
open Go Go.RowKit Go.Lay Go.Nod

theorem take_next {τ : Type} {xs ys : List τ} {i : Nat} (h : xs.take i = ys.take i) (hx : i < xs.length) (hy : i < ys.length) (he : xs[i] = ys[i]) : xs.take (i + 1) = ys.take (i + 1) := by
  rw [List.take_succ_eq_append_getElem hx, List.take_succ_eq_append_getElem hy, h, he]

set_option maxRecDepth 100000 in
set_option maxHeartbeats 1000000 in
theorem equal_ok (xs ys : List Nd) (α : AH) (v u : Value) (h : Nodes α v xs) (k : Nodes α u ys) (hl : xs.length ≤ 1000000000000) :
    NCalls Try.prog 64 [v, u] α (fun r α' => r = .bool (decide (xs = ys)) ∧ α' = α) := by
  obtain ⟨id, off, hlen, hidx, hld⟩ := h.rd (t := 49) Try.underlying49 sz55
  obtain ⟨id', off', klen, kidx, kld⟩ := k.rd (t := 49) Try.underlying49 sz55
  have hk3 : nodeK.sz = 3 := rfl
  rw [hk3] at hidx hld kidx kld
  refine ncalls_of (by kernel_rfl) Try.func64 rfl (by rw [Try.ntmps64]; simp) ?_
  rw [Try.ntmps64, Try.results64]
  by_cases c1 : xs.length = ys.length
  case neg =>
    have c1' : ¬ ((xs.length : Int) = ys.length) := by omega
    have : xs ≠ ys := fun h => c1 (by rw [h])
    repeat (first
      | (refine nw_seq (nw_region fun K hK => ?_); simp [hlen, klen, c1, c1']; refine hK _ _ ?_; clear hK K)
      | (refine nw_region fun K hK => ?_; simp [hlen, klen, c1, c1']; refine hK _ _ ?_; clear hK K)
      | refine nw_seq ?_
      | refine nw_block ?_
      | (refine nw_yes ?_ ?_; focus (simp [hlen, klen, c1, c1']; done))
      | (refine nw_no ?_ ?_; focus (simp [hlen, klen, c1, c1']; done))
      | refine nw_skip ?_
      | refine nw_exit ?_
      | refine nw_ret ?_)
    simp [this]
  have c1' : (ys.length : Int) = xs.length := by omega
  repeat (first
    | (refine nw_seq (nw_region fun K hK => ?_); simp [hlen, klen, c1, c1']; refine hK _ _ ?_; clear hK K)
    | (refine nw_region fun K hK => ?_; simp [hlen, klen, c1, c1']; refine hK _ _ ?_; clear hK K)
    | refine nw_seq ?_
    | refine nw_block ?_
    | (refine nw_yes ?_ ?_; focus (simp [hlen, klen, c1, c1']; done))
    | (refine nw_no ?_ ?_; focus (simp [hlen, klen, c1, c1']; done))
    | refine nw_skip ?_
    | refine nw_exit ?_
    | refine nw_ret ?_)
  refine nw_loop (fun n s α' => ∃ (i : Nat), n = xs.length - i ∧ i ≤ xs.length ∧ s 0 = v ∧ s 1 = u ∧ s 12 = .int .i64 (xs.length : Int) ∧ s 13 = .int .i64 (i : Int) ∧ α' = α ∧ xs.take i = ys.take i)
    xs.length ⟨0, rfl, by omega, by simp, by simp, by simp [c1], by simp, rfl, by simp⟩ ?_
  rintro n s α' ⟨i, rfl, hi, s0, s1, s12, s13, rfl, ht⟩
  by_cases c3 : i < xs.length
  · have d3 : i < ys.length := by omega
    obtain ⟨b, hb, hfit, hR⟩ := hld _ (.refl _ _) i c3
    obtain ⟨b', kb, kfit, kR⟩ := kld _ (.refl _ _) i d3
    have hR : (b.cells.drop (off + i * 3)).take 3 = xs[i].enc := hR
    have kR : (b'.cells.drop (off' + i * 3)).take 3 = ys[i].enc := kR
    have hix := hidx .i64 i c3
    have kix := kidx .i64 i d3
    have e1 : IntKind.i64.wrap ((i : Int) + 1) = (i : Int) + 1 := w64 (by omega)
    generalize hx : xs[i] = x at *
    generalize hy : ys[i] = y at *
    repeat (first
      | (refine nw_seq (nw_region fun K hK => ?_); simp [s12, s13, c3]; refine hK _ _ ?_; clear hK K)
      | (refine nw_region fun K hK => ?_; simp [s12, s13, c3]; refine hK _ _ ?_; clear hK K)
      | refine nw_seq ?_
      | refine nw_block ?_
      | (refine nw_yes ?_ ?_; focus (simp [s12, s13, c3]; done))
      | (refine nw_no ?_ ?_; focus (simp [s12, s13, c3]; done))
      | refine nw_skip ?_
      | refine nw_exit ?_
      | refine nw_ret ?_)
    by_cases a1 : x.k = y.k
    case neg =>
      have b1 : (x.k == y.k) = false := by simpa using a1
      have : xs ≠ ys := fun h => by subst h; rw [← hx, ← hy] at a1; exact a1 rfl
      refine nw_draw (.take 0 (.take 1 (.take 2 (.take 3 (.take 4 (.take 5 (.take 6 (.take 7 (.take 8 (.done)))))))))) mixd (by kernel_rfl) fun K hK => ?_
      simp [s0, s1, hix, kix, hb, kb, hfit, kfit, hR, kR, Nd.enc, b1]
      refine hK _ _ ?_
      clear hK K
      repeat (first
        | (refine nw_seq (nw_region fun K hK => ?_); simp []; refine hK _ _ ?_; clear hK K)
        | (refine nw_region fun K hK => ?_; simp []; refine hK _ _ ?_; clear hK K)
        | refine nw_seq ?_
        | refine nw_block ?_
        | (refine nw_yes ?_ ?_; focus (simp []; done))
        | (refine nw_no ?_ ?_; focus (simp []; done))
        | refine nw_skip ?_
        | refine nw_exit ?_
        | refine nw_ret ?_)
      simp [this]
    by_cases a2 : x.p = y.p
    case neg =>
      have b2 : (x.p == y.p) = false := by simpa using a2
      have : xs ≠ ys := fun h => by subst h; rw [← hx, ← hy] at a2; exact a2 rfl
      refine nw_draw (.take 0 (.take 1 (.take 2 (.take 3 (.take 4 (.take 5 (.take 6 (.take 7 (.take 8 (.done)))))))))) mixd (by kernel_rfl) fun K hK => ?_
      simp [s0, s1, hix, kix, hb, kb, hfit, kfit, hR, kR, Nd.enc, a1, b2]
      refine hK _ _ ?_
      clear hK K
      repeat (first
        | (refine nw_seq (nw_region fun K hK => ?_); simp []; refine hK _ _ ?_; clear hK K)
        | (refine nw_region fun K hK => ?_; simp []; refine hK _ _ ?_; clear hK K)
        | refine nw_seq ?_
        | refine nw_block ?_
        | (refine nw_yes ?_ ?_; focus (simp []; done))
        | (refine nw_no ?_ ?_; focus (simp []; done))
        | refine nw_skip ?_
        | refine nw_exit ?_
        | refine nw_ret ?_)
      simp [this]
    by_cases a3 : x.n = y.n
    case neg =>
      have b3 : (x.n == y.n) = false := by simpa using a3
      have : xs ≠ ys := fun h => by subst h; rw [← hx, ← hy] at a3; exact a3 rfl
      refine nw_draw (.take 0 (.take 1 (.take 2 (.take 3 (.take 4 (.take 5 (.take 6 (.take 7 (.take 8 (.done)))))))))) mixd (by kernel_rfl) fun K hK => ?_
      simp [s0, s1, hix, kix, hb, kb, hfit, kfit, hR, kR, Nd.enc, a1, a2, b3]
      refine hK _ _ ?_
      clear hK K
      repeat (first
        | (refine nw_seq (nw_region fun K hK => ?_); simp []; refine hK _ _ ?_; clear hK K)
        | (refine nw_region fun K hK => ?_; simp []; refine hK _ _ ?_; clear hK K)
        | refine nw_seq ?_
        | refine nw_block ?_
        | (refine nw_yes ?_ ?_; focus (simp []; done))
        | (refine nw_no ?_ ?_; focus (simp []; done))
        | refine nw_skip ?_
        | refine nw_exit ?_
        | refine nw_ret ?_)
      simp [this]
    have hxy : x = y := by cases x; cases y; simp_all
    refine nw_draw (.take 0 (.take 1 (.take 2 (.take 3 (.take 4 (.take 5 (.take 6 (.take 7 (.take 8 (.done)))))))))) mixd (by kernel_rfl) fun K hK => ?_
    simp [s0, s1, hix, kix, hb, kb, hfit, kfit, hR, kR, Nd.enc, a1, a2, a3]
    refine hK _ _ ?_
    clear hK K
    repeat (first
      | (refine nw_seq (nw_region fun K hK => ?_); simp [s13, e1]; refine hK _ _ ?_; clear hK K)
      | (refine nw_region fun K hK => ?_; simp [s13, e1]; refine hK _ _ ?_; clear hK K)
      | refine nw_seq ?_
      | refine nw_block ?_
      | (refine nw_yes ?_ ?_; focus (simp [s13, e1]; done))
      | (refine nw_no ?_ ?_; focus (simp [s13, e1]; done))
      | refine nw_skip ?_
      | refine nw_exit ?_
      | refine nw_ret ?_)
    exact ⟨xs.length - (i + 1), by omega, i + 1, rfl, by omega, by simp [s0], by simp [s1], by simp [s12], by simp, rfl, take_next ht c3 d3 (by rw [hx, hy, hxy])⟩
  · have : i = xs.length := by omega
    have hxy : xs = ys := by
      subst this
      rw [List.take_length, c1, List.take_length] at ht
      exact ht
    repeat (first
      | (refine nw_seq (nw_region fun K hK => ?_); simp [s12, s13, c3]; refine hK _ _ ?_; clear hK K)
      | (refine nw_region fun K hK => ?_; simp [s12, s13, c3]; refine hK _ _ ?_; clear hK K)
      | refine nw_seq ?_
      | refine nw_block ?_
      | (refine nw_yes ?_ ?_; focus (simp [s12, s13, c3]; done))
      | (refine nw_no ?_ ?_; focus (simp [s12, s13, c3]; done))
      | refine nw_skip ?_
      | refine nw_exit ?_
      | refine nw_ret ?_)
    simp [hxy]

set_option maxRecDepth 100000 in
theorem bookSame_ok (xs ys : List Int) (α : AH) (v u : Value) (h : Sl 3 (intK .i64) α v xs) (k : Sl 3 (intK .i64) α u ys) (hl : xs.length ≤ 1000000000000) :
    NCalls Try.prog 39 [v, u] α (fun r α' => r = .bool (decide (xs = ys)) ∧ α' = α) := by
  obtain ⟨id, off, hlen, hidx, hld⟩ := h.rd (t := 28) Try.underlying28 sz3
  obtain ⟨id', off', klen, kidx, kld⟩ := k.rd (t := 28) Try.underlying28 sz3
  have hk3 : (intK .i64).sz = 1 := rfl
  rw [hk3] at hidx hld kidx kld
  refine ncalls_of (by kernel_rfl) Try.func39 rfl (by rw [Try.ntmps39]; simp) ?_
  rw [Try.ntmps39, Try.results39]
  by_cases c1 : xs.length = ys.length
  case neg =>
    have c1' : ¬ ((xs.length : Int) = ys.length) := by omega
    have : xs ≠ ys := fun h => c1 (by rw [h])
    repeat (first
      | (refine nw_seq (nw_region fun K hK => ?_); simp [hlen, klen, c1, c1']; refine hK _ _ ?_; clear hK K)
      | (refine nw_region fun K hK => ?_; simp [hlen, klen, c1, c1']; refine hK _ _ ?_; clear hK K)
      | refine nw_seq ?_
      | refine nw_block ?_
      | (refine nw_yes ?_ ?_; focus (simp [hlen, klen, c1, c1']; done))
      | (refine nw_no ?_ ?_; focus (simp [hlen, klen, c1, c1']; done))
      | refine nw_skip ?_
      | refine nw_exit ?_
      | refine nw_ret ?_)
    simp [this]
  have c1' : (ys.length : Int) = xs.length := by omega
  repeat (first
    | (refine nw_seq (nw_region fun K hK => ?_); simp [hlen, klen, c1, c1']; refine hK _ _ ?_; clear hK K)
    | (refine nw_region fun K hK => ?_; simp [hlen, klen, c1, c1']; refine hK _ _ ?_; clear hK K)
    | refine nw_seq ?_
    | refine nw_block ?_
    | (refine nw_yes ?_ ?_; focus (simp [hlen, klen, c1, c1']; done))
    | (refine nw_no ?_ ?_; focus (simp [hlen, klen, c1, c1']; done))
    | refine nw_skip ?_
    | refine nw_exit ?_
    | refine nw_ret ?_)
  refine nw_loop (fun n s α' => ∃ (i : Nat), n = xs.length - i ∧ i ≤ xs.length ∧ s 0 = v ∧ s 1 = u ∧ s 5 = .int .i64 (i : Int) ∧ α' = α ∧ xs.take i = ys.take i)
    xs.length ⟨0, rfl, by omega, by simp, by simp, by simp, rfl, by simp⟩ ?_
  rintro n s α' ⟨i, rfl, hi, s0, s1, s5, rfl, ht⟩
  by_cases c3 : i < xs.length
  · have d3 : i < ys.length := by omega
    obtain ⟨b, hb, hfit, hR⟩ := hld _ (.refl _ _) i c3
    obtain ⟨b', kb, kfit, kR⟩ := kld _ (.refl _ _) i d3
    have hR : b.cells[off + i * 1]? = some (.int .i64 xs[i]) := take_get hR (j := 0) (by simp)
    have kR : b'.cells[off' + i * 1]? = some (.int .i64 ys[i]) := take_get kR (j := 0) (by simp)
    have hix := hidx .i64 i c3
    have kix := kidx .i64 i d3
    simp only [Nat.mul_one] at hR kR hix kix
    have e1 : IntKind.i64.wrap ((i : Int) + 1) = (i : Int) + 1 := w64 (by omega)
    repeat (first
      | (refine nw_seq (nw_region fun K hK => ?_); simp [s0, s5, hlen, c3]; refine hK _ _ ?_; clear hK K)
      | (refine nw_region fun K hK => ?_; simp [s0, s5, hlen, c3]; refine hK _ _ ?_; clear hK K)
      | refine nw_seq ?_
      | refine nw_block ?_
      | (refine nw_yes ?_ ?_; focus (simp [s0, s5, hlen, c3]; done))
      | (refine nw_no ?_ ?_; focus (simp [s0, s5, hlen, c3]; done))
      | refine nw_skip ?_
      | refine nw_exit ?_
      | refine nw_ret ?_)
    by_cases a1 : xs[i] = ys[i]
    case neg =>
      have : xs ≠ ys := fun h => a1 (by subst h; rfl)
      have b1 : (xs[i] == ys[i]) = false := by simpa using a1
      have b2 : (xs[i] != ys[i]) = true := by simpa using a1
      refine nw_draw (.take 0 (.take 1 (.take 2 (.take 3 (.take 4 (.take 5 (.take 6 (.take 7 (.take 8 (.done)))))))))) mixd (by kernel_rfl) fun K hK => ?_
      simp [s0, s1, s5, hix, kix, hb, kb, hR, kR, b1, b2]
      refine hK _ _ ?_
      clear hK K
      repeat (first
        | (refine nw_seq (nw_region fun K hK => ?_); simp []; refine hK _ _ ?_; clear hK K)
        | (refine nw_region fun K hK => ?_; simp []; refine hK _ _ ?_; clear hK K)
        | refine nw_seq ?_
        | refine nw_block ?_
        | (refine nw_yes ?_ ?_; focus (simp []; done))
        | (refine nw_no ?_ ?_; focus (simp []; done))
        | refine nw_skip ?_
        | refine nw_exit ?_
        | refine nw_ret ?_)
      simp [this]
    refine nw_draw (.take 0 (.take 1 (.take 2 (.take 3 (.take 4 (.take 5 (.take 6 (.take 7 (.take 8 (.done)))))))))) mixd (by kernel_rfl) fun K hK => ?_
    simp [s0, s1, s5, hix, kix, hb, kb, hR, kR, a1]
    refine hK _ _ ?_
    clear hK K
    repeat (first
      | (refine nw_seq (nw_region fun K hK => ?_); simp [s5, e1]; refine hK _ _ ?_; clear hK K)
      | (refine nw_region fun K hK => ?_; simp [s5, e1]; refine hK _ _ ?_; clear hK K)
      | refine nw_seq ?_
      | refine nw_block ?_
      | (refine nw_yes ?_ ?_; focus (simp [s5, e1]; done))
      | (refine nw_no ?_ ?_; focus (simp [s5, e1]; done))
      | refine nw_skip ?_
      | refine nw_exit ?_
      | refine nw_ret ?_)
    exact ⟨xs.length - (i + 1), by omega, i + 1, rfl, by omega, by simp [s0], by simp [s1], by simp, rfl, take_next ht c3 d3 a1⟩
  · have : i = xs.length := by omega
    have hxy : xs = ys := by
      subst this
      rw [List.take_length, c1, List.take_length] at ht
      exact ht
    repeat (first
      | (refine nw_seq (nw_region fun K hK => ?_); simp [s0, s5, hlen, c3]; refine hK _ _ ?_; clear hK K)
      | (refine nw_region fun K hK => ?_; simp [s0, s5, hlen, c3]; refine hK _ _ ?_; clear hK K)
      | refine nw_seq ?_
      | refine nw_block ?_
      | (refine nw_yes ?_ ?_; focus (simp [s0, s5, hlen, c3]; done))
      | (refine nw_no ?_ ?_; focus (simp [s0, s5, hlen, c3]; done))
      | refine nw_skip ?_
      | refine nw_exit ?_
      | refine nw_ret ?_)
    simp [hxy]

theorem same_ok (xs : List Nd) (α : AH) (v : Value) (h : Nodes α v xs) (hl : xs.length ≤ 1000000000000) :
    NCalls Try.prog 50 [v, v] α (fun r α' => r = .bool true ∧ α' = α) := by
  refine ncalls_of (by kernel_rfl) Try.func50 rfl (by rw [Try.ntmps50]; simp) ?_
  rw [Try.ntmps50, Try.results50]
  repeat (first
    | (refine nw_seq (nw_region fun K hK => ?_); simp []; refine hK _ _ ?_; clear hK K)
    | (refine nw_region fun K hK => ?_; simp []; refine hK _ _ ?_; clear hK K)
    | refine nw_seq ?_
    | refine nw_block ?_
    | (refine nw_yes ?_ ?_; focus (simp []; done))
    | (refine nw_no ?_ ?_; focus (simp []; done))
    | refine nw_skip ?_
    | refine nw_exit ?_
    | refine nw_ret ?_)
  refine nw_region fun K hK => ?_
  simp []
  refine (equal_ok xs xs _ v v h h hl).mono fun r β hr => ?_
  obtain ⟨rfl, rfl⟩ := hr
  simp [contK, ]
  refine hK _ _ ?_
  clear hK K
  repeat (first
    | (refine nw_seq (nw_region fun K hK => ?_); simp []; refine hK _ _ ?_; clear hK K)
    | (refine nw_region fun K hK => ?_; simp []; refine hK _ _ ?_; clear hK K)
    | refine nw_seq ?_
    | refine nw_block ?_
    | (refine nw_yes ?_ ?_; focus (simp []; done))
    | (refine nw_no ?_ ?_; focus (simp []; done))
    | refine nw_skip ?_
    | refine nw_exit ?_
    | refine nw_ret ?_)
  simp
end Go.Proofs.Ytggkeldedennfaa
