/- Contracts: the book's Within; the tape. -/
import Derived.Test.YtggkeldedennfaaLm
import Derived.Test.YtggkeldedennfaaTy
set_option linter.unusedVariables false
set_option linter.unusedSimpArgs false
namespace Go.Proofs.Ytggkeldedennfaa
open Go Go.RowKit Go.Lay

theorem w64 {n : Int} (h : -9223372036854775808 ≤ n ∧ n ≤ 9223372036854775807) : IntKind.i64.wrap n = n := IntWalk.i64_in n h
@[simp] theorem w0 : IntKind.i64.wrap 0 = 0 := by decide
@[simp] theorem w1 : IntKind.i64.wrap 1 = 1 := by decide

set_option maxRecDepth 100000 in
theorem within_ok (n lo hi : Int) (α : AH) (h1 : -1000000000000 ≤ lo) (h2 : lo ≤ hi) (h3 : hi ≤ 1000000000000) :
    NCalls Try.prog 20 [.int .i64 n, .int .i64 lo, .int .i64 hi] α (fun v α' => ∃ r, v = .int .i64 r ∧ lo ≤ r ∧ r ≤ hi ∧ (lo ≤ n → n ≤ hi → r = n) ∧ α' = α) := by
  refine ncalls_of (by kernel_rfl) Try.func20 rfl (by rw [Try.ntmps20]; simp) ?_
  rw [Try.ntmps20, Try.results20]
  have e1 : IntKind.i64.wrap (hi - lo) = hi - lo := w64 (by omega)
  have e2 : IntKind.i64.wrap (hi - lo + 1) = hi - lo + 1 := w64 (by omega)
  have b1 := Int.tmod_lt_of_pos n (show 0 < hi - lo + 1 by omega)
  have b2 : -(hi - lo + 1) < n.tmod (hi - lo + 1) := by exact Int.lt_tmod_of_pos n (show 0 < hi - lo + 1 by omega)
  have nz : ¬ (hi - lo + 1 = 0) := by omega
  generalize hr : n.tmod (hi - lo + 1) = r at *
  have e3 : IntKind.i64.wrap (r + hi) = r + hi := w64 (by omega)
  have e4 : IntKind.i64.wrap (r + hi - lo) = r + hi - lo := w64 (by omega)
  have e5 : IntKind.i64.wrap (r + hi - lo + 1) = r + hi - lo + 1 := w64 (by omega)
  have e6 : IntKind.i64.wrap (lo + (r + hi - lo + 1)) = lo + (r + hi - lo + 1) := w64 (by omega)
  have rest : ¬ (lo ≤ n ∧ n ≤ hi) → ∃ q, (if r < 0 then lo + (r + hi - lo + 1) else lo + r) = q ∧ lo ≤ q ∧ q ≤ hi ∧ (lo ≤ n → n ≤ hi → q = n) := fun hn =>
    ⟨_, rfl, by split <;> omega, by split <;> omega, fun a b => absurd ⟨a, b⟩ hn⟩
  by_cases c1 : lo ≤ n
  · by_cases c2 : n ≤ hi
    ·
      repeat (first
        | (refine nw_seq (nw_region fun K hK => ?_); simp [c1, c2]; refine hK _ _ ?_; clear hK K)
        | (refine nw_region fun K hK => ?_; simp [c1, c2]; refine hK _ _ ?_; clear hK K)
        | refine nw_seq ?_
        | refine nw_block ?_
        | (refine nw_yes ?_ ?_; focus (simp [c1, c2]; done))
        | (refine nw_no ?_ ?_; focus (simp [c1, c2]; done))
        | refine nw_skip ?_
        | refine nw_exit ?_
        | refine nw_ret ?_)
      simp [c1, c2]
    · obtain ⟨q, hq, hq2⟩ := rest (by omega)
      by_cases c3 : r < 0
      ·
        repeat (first
          | (refine nw_seq (nw_region fun K hK => ?_); simp [c1, c2, c3, e1, e2, e3, e4, e5, e6, nz, hr]; refine hK _ _ ?_; clear hK K)
          | (refine nw_region fun K hK => ?_; simp [c1, c2, c3, e1, e2, e3, e4, e5, e6, nz, hr]; refine hK _ _ ?_; clear hK K)
          | refine nw_seq ?_
          | refine nw_block ?_
          | (refine nw_yes ?_ ?_; focus (simp [c1, c2, c3, e1, e2, e3, e4, e5, e6, nz, hr]; done))
          | (refine nw_no ?_ ?_; focus (simp [c1, c2, c3, e1, e2, e3, e4, e5, e6, nz, hr]; done))
          | refine nw_skip ?_
          | refine nw_exit ?_
          | refine nw_ret ?_)
        simp [c3] at hq
        simp [hq, hq2]
        omega
      · have e7 : IntKind.i64.wrap (lo + r) = lo + r := w64 (by omega)
        repeat (first
          | (refine nw_seq (nw_region fun K hK => ?_); simp [c1, c2, c3, e1, e2, e7, nz, hr]; refine hK _ _ ?_; clear hK K)
          | (refine nw_region fun K hK => ?_; simp [c1, c2, c3, e1, e2, e7, nz, hr]; refine hK _ _ ?_; clear hK K)
          | refine nw_seq ?_
          | refine nw_block ?_
          | (refine nw_yes ?_ ?_; focus (simp [c1, c2, c3, e1, e2, e7, nz, hr]; done))
          | (refine nw_no ?_ ?_; focus (simp [c1, c2, c3, e1, e2, e7, nz, hr]; done))
          | refine nw_skip ?_
          | refine nw_exit ?_
          | refine nw_ret ?_)
        simp [c3] at hq
        simp [hq, hq2]
        omega
  · obtain ⟨q, hq, hq2⟩ := rest (by omega)
    by_cases c3 : r < 0
    ·
      repeat (first
        | (refine nw_seq (nw_region fun K hK => ?_); simp [c1, c3, e1, e2, e3, e4, e5, e6, nz, hr]; refine hK _ _ ?_; clear hK K)
        | (refine nw_region fun K hK => ?_; simp [c1, c3, e1, e2, e3, e4, e5, e6, nz, hr]; refine hK _ _ ?_; clear hK K)
        | refine nw_seq ?_
        | refine nw_block ?_
        | (refine nw_yes ?_ ?_; focus (simp [c1, c3, e1, e2, e3, e4, e5, e6, nz, hr]; done))
        | (refine nw_no ?_ ?_; focus (simp [c1, c3, e1, e2, e3, e4, e5, e6, nz, hr]; done))
        | refine nw_skip ?_
        | refine nw_exit ?_
        | refine nw_ret ?_)
      simp [c3] at hq
      simp [hq, hq2]
      omega
    · have e7 : IntKind.i64.wrap (lo + r) = lo + r := w64 (by omega)
      repeat (first
        | (refine nw_seq (nw_region fun K hK => ?_); simp [c1, c3, e1, e2, e7, nz, hr]; refine hK _ _ ?_; clear hK K)
        | (refine nw_region fun K hK => ?_; simp [c1, c3, e1, e2, e7, nz, hr]; refine hK _ _ ?_; clear hK K)
        | refine nw_seq ?_
        | refine nw_block ?_
        | (refine nw_yes ?_ ?_; focus (simp [c1, c3, e1, e2, e7, nz, hr]; done))
        | (refine nw_no ?_ ?_; focus (simp [c1, c3, e1, e2, e7, nz, hr]; done))
        | refine nw_skip ?_
        | refine nw_exit ?_
        | refine nw_ret ?_)
      simp [c3] at hq
      simp [hq, hq2]
      omega

/-- All but one block is as it was. -/
structure FrX (id : Nat) (α α' : AH) : Prop where
  n : α.n ≤ α'.n
  get : ∀ i, i < α.n → i ≠ id → α'.get i = α.get i
theorem FrX.refl (id : Nat) (α : AH) : FrX id α α := ⟨Nat.le_refl _, fun _ _ _ => rfl⟩
theorem FrX.trans {id : Nat} {a b c : AH} (h : FrX id a b) (k : FrX id b c) : FrX id a c := ⟨Nat.le_trans h.n k.n, fun i hi hne => (k.get i (Nat.lt_of_lt_of_le hi h.n) hne).trans (h.get i hi hne)⟩
theorem FrX.of_fr {id : Nat} {a b : AH} (h : Fr a.n a b) : FrX id a b := ⟨h.n, fun i hi _ => h.get i hi⟩
theorem FrX.alloc {id : Nat} {a b : AH} (h : FrX id a b) (c : ABlk) : FrX id a (b.alloc c) := ⟨Nat.le_succ_of_le h.n, fun i hi hne => by rw [AH.alloc_get_ne _ _ (by have := h.n; omega)]; exact h.get i hi hne⟩
/-- A slice whose elements are of another type than the block that changes. -/
theorem Sl.frx {τ : Type} {e e' : TypeId} {K : Kd τ} {α α' : AH} {v : Value} {xs : List τ} {id : Nat} {b : ABlk} (h : Sl e K α v xs) (hf : FrX id α α') (hb : α.get id = some b) (he : b.elem = e') (hne : e ≠ e')
    (hk : ∀ x c, K.R α x c → K.R α' x c) : Sl e K α' v xs := by
  rcases h with h | ⟨i, off, c, b', h1, h2, h3, h4, h5, h6⟩
  · exact .inl h
  · have hi : i ≠ id := fun hi => by subst hi; rw [hb] at h3; injection h3 with h3; subst h3; exact hne (h4.symm.trans he)
    exact .inr ⟨i, off, c, b', h1, Nat.lt_of_lt_of_le h2 hf.n, by rw [hf.get i h2 hi]; exact h3, h4, h5, fun j hj => hk _ _ (h6 j hj)⟩

/-- A tape in memory. -/
def IsTape (α : AH) (id : Nat) (L : List Int) (at_ : Int) : Prop :=
  L.length ≤ 1000000000000000 ∧ 0 ≤ at_ ∧ at_ ≤ L.length ∧ id < α.n ∧ ∃ vL, α.get id = some ⟨[vL, .int .i64 at_], 31, true⟩ ∧ Sl 3 (intK .i64) α vL L
theorem IsTape.fr {α α' : AH} {id : Nat} {L : List Int} {at_ : Int} (h : IsTape α id L at_) (hf : Fr α.n α α') : IsTape α' id L at_ := by
  obtain ⟨h1, h2, h3, h4, vL, h5, h6⟩ := h
  exact ⟨h1, h2, h3, Nat.lt_of_lt_of_le h4 hf.n, vL, by rw [hf.get id h4]; exact h5, h6.fr hf⟩
/-- What the tape's own functions leave: the tape further on, all else as it was. -/
def TapeOn (α : AH) (id : Nat) (L : List Int) (α' : AH) : Prop := FrX id α α' ∧ ∃ at_, IsTape α' id L at_
theorem TapeOn.trans {α β γ : AH} {id : Nat} {L : List Int} (h : TapeOn α id L β) (k : TapeOn β id L γ) : TapeOn α id L γ := ⟨h.1.trans k.1, k.2⟩
theorem TapeOn.fr {α β γ : AH} {id : Nat} {L : List Int} (h : TapeOn α id L β) (k : Fr β.n β γ) : TapeOn α id L γ := by
  obtain ⟨h1, a, h2⟩ := h
  exact ⟨h1.trans (.of_fr k), a, h2.fr k⟩
theorem IsTape.on {α : AH} {id : Nat} {L : List Int} {at_ : Int} (h : IsTape α id L at_) : TapeOn α id L α := ⟨.refl _ _, at_, h⟩

set_option maxRecDepth 100000 in
theorem next_ok (L : List Int) (at_ n : Int) (id : Nat) (α : AH) (h : IsTape α id L at_) :
    NCalls Try.prog 33 [.pointer (some ⟨id, 0, none⟩), .int .i64 n] α (fun v α' => ∃ r, v = .int .i64 r ∧ 0 ≤ r ∧ (1 ≤ n → r < n) ∧ TapeOn α id L α') := by
  have h' := h
  obtain ⟨h1, h2, h3, h4, vL, h5, h6⟩ := h
  obtain ⟨i0, off, hlen, hidx, hld⟩ := h6.rd (t := 28) Try.underlying28 sz3
  obtain ⟨k, rfl⟩ := Int.eq_ofNat_of_zero_le h2
  refine ncalls_of (by kernel_rfl) Try.func33 rfl (by rw [Try.ntmps33]; simp) ?_
  rw [Try.ntmps33, Try.results33]
  repeat (first
    | (refine nw_seq (nw_region fun K hK => ?_); simp [h5]; refine hK _ _ ?_; clear hK K)
    | (refine nw_region fun K hK => ?_; simp [h5]; refine hK _ _ ?_; clear hK K)
    | refine nw_seq ?_
    | refine nw_block ?_
    | (refine nw_yes ?_ ?_; focus (simp [h5]; done))
    | (refine nw_no ?_ ?_; focus (simp [h5]; done))
    | refine nw_skip ?_
    | refine nw_exit ?_
    | refine nw_ret ?_)
  by_cases c1 : L.length ≤ k
  · have c1' : (L.length : Int) ≤ k := by omega
    refine nw_draw (.take 0 (.take 1 (.take 2 (.take 3 (.take 4 (.take 5 (.take 6 (.take 7 (.take 8 (.take 9 (.take 10 (.take 11 (.take 12 (.take 13 (.done))))))))))))))) mixd (by kernel_rfl) fun K hK => ?_
    simp [h5, hlen, c1, c1']
    refine hK _ _ ?_
    clear hK K
    repeat (first
      | (refine nw_seq (nw_region fun K hK => ?_); simp [h5]; refine hK _ _ ?_; clear hK K)
      | (refine nw_region fun K hK => ?_; simp [h5]; refine hK _ _ ?_; clear hK K)
      | refine nw_seq ?_
      | refine nw_block ?_
      | (refine nw_yes ?_ ?_; focus (simp [h5]; done))
      | (refine nw_no ?_ ?_; focus (simp [h5]; done))
      | refine nw_skip ?_
      | refine nw_exit ?_
      | refine nw_ret ?_)
    simp
    exact ⟨fun _ => by omega, h'.on⟩
  have c1' : k < L.length := by omega
  by_cases c2 : n < 1
  ·
    refine nw_draw (.take 0 (.take 1 (.take 2 (.take 3 (.take 4 (.take 5 (.take 6 (.take 7 (.take 8 (.take 9 (.take 10 (.take 11 (.take 12 (.take 13 (.done))))))))))))))) mixd (by kernel_rfl) fun K hK => ?_
    simp [h5, hlen, c1, c1', c2]
    refine hK _ _ ?_
    clear hK K
    repeat (first
      | (refine nw_seq (nw_region fun K hK => ?_); simp [h5]; refine hK _ _ ?_; clear hK K)
      | (refine nw_region fun K hK => ?_; simp [h5]; refine hK _ _ ?_; clear hK K)
      | refine nw_seq ?_
      | refine nw_block ?_
      | (refine nw_yes ?_ ?_; focus (simp [h5]; done))
      | (refine nw_no ?_ ?_; focus (simp [h5]; done))
      | refine nw_skip ?_
      | refine nw_exit ?_
      | refine nw_ret ?_)
    simp
    exact ⟨fun _ => by omega, h'.on⟩
  refine nw_draw (.take 0 (.take 1 (.take 2 (.take 3 (.take 4 (.take 5 (.take 6 (.take 7 (.take 8 (.take 9 (.take 10 (.take 11 (.take 12 (.take 13 (.done))))))))))))))) mixd (by kernel_rfl) fun K hK => ?_
  simp [h5, hlen, c1, c1', c2]
  refine hK _ _ ?_
  clear hK K
  have e1 : IntKind.i64.wrap ((k : Int) + 1) = (k : Int) + 1 := w64 (by omega)
  have e2 : IntKind.i64.wrap (k : Int) = (k : Int) := w64 (by omega)
  repeat (first
    | (refine nw_seq (nw_region fun K hK => ?_); simp [h5, e1]; refine hK _ _ ?_; clear hK K)
    | (refine nw_region fun K hK => ?_; simp [h5, e1]; refine hK _ _ ?_; clear hK K)
    | refine nw_seq ?_
    | refine nw_block ?_
    | (refine nw_yes ?_ ?_; focus (simp [h5, e1]; done))
    | (refine nw_no ?_ ?_; focus (simp [h5, e1]; done))
    | refine nw_skip ?_
    | refine nw_exit ?_
    | refine nw_ret ?_)
  have hS : Sl 3 (intK .i64) (α.set id (some ⟨[vL, .int .i64 ((k : Int) + 1)], 31, true⟩)) vL L := h6.set h5 rfl (show (3 : Nat) ≠ 31 by decide) (intK_apart _ _) _
  obtain ⟨j0, off', -, hidx', hld'⟩ := hS.rd (t := 28) Try.underlying28 sz3
  obtain ⟨b, hb1, hb2, hb3⟩ := hld' _ (.refl _ _) k c1'
  have hx : b.cells[off' + k * (intK .i64).sz]? = some (.int .i64 L[k]) := by have := take_get (j := 0) hb3 (by simp); simpa using this
  refine nw_draw (.take 0 (.take 1 (.take 2 (.take 3 (.take 4 (.take 5 (.take 6 (.take 7 (.take 8 (.take 9 (.take 10 (.take 12 (.pick (.cons 11 (.take 13 (.take 14 (.done))) .nil)))))))))))))) mixd (by kernel_rfl) fun K hK => ?_
  simp [h5, e1, e2, hidx' .i64 k c1', hb1, hx]
  refine (within_ok _ 0 1073741824 _ (by omega) (by omega) (by omega)).mono fun r β hr => ?_
  obtain ⟨q, rfl, q1, q2, -, rfl⟩ := hr
  have nz : ¬ (n = 0) := by omega
  have m1 : 0 ≤ q.tmod n := Int.tmod_nonneg _ q1
  have m2 : q.tmod n < n := Int.tmod_lt_of_pos q (by omega)
  have e3 : IntKind.i64.wrap (q.tmod n) = q.tmod n := by
    have : q.tmod n ≤ q := by
      obtain ⟨a, rfl⟩ := Int.eq_ofNat_of_zero_le q1
      obtain ⟨c, rfl⟩ := Int.eq_ofNat_of_zero_le (show 0 ≤ n by omega)
      exact Int.ofNat_le.2 (Nat.mod_le a c)
    exact w64 (by omega)
  simp [contK, nz, e3]
  refine hK _ _ ?_
  clear hK K
  repeat (first
    | (refine nw_seq (nw_region fun K hK => ?_); simp [h5]; refine hK _ _ ?_; clear hK K)
    | (refine nw_region fun K hK => ?_; simp [h5]; refine hK _ _ ?_; clear hK K)
    | refine nw_seq ?_
    | refine nw_block ?_
    | (refine nw_yes ?_ ?_; focus (simp [h5]; done))
    | (refine nw_no ?_ ?_; focus (simp [h5]; done))
    | refine nw_skip ?_
    | refine nw_exit ?_
    | refine nw_ret ?_)
  simp
  refine ⟨m1, fun _ => m2, ⟨Nat.le_refl _, fun i _ hne => AH.set_get_ne _ _ hne⟩, (k : Int) + 1, h1, by omega, by omega, h4, vL, AH.set_get _ _ _, hS⟩
end Go.Proofs.Ytggkeldedennfaa
