/- Contract: Tape.Table. -/
import Derived.Test.YtggkeldedennfaaNk
set_option linter.unusedVariables false
set_option linter.unusedSimpArgs false
namespace Go.Proofs.Ytggkeldedennfaa
open Go Go.RowKit Go.Lay Go.Nod

abbrev OwN (N : Nat) (α : AH) (v : Value) (xs : List Nd) : Prop := Ow N 55 nodeK α v xs
theorem node_apart (e : TypeId) : nodeK.apart e := flatK_apart _ _ _ _ _
def TableQ (id : Nat) (L : List Int) (d : Nat) (α : AH) (v : Value) (α' : AH) : Prop := ∃ xs at_, OwN α.n α' v xs ∧ 1 ≤ xs.length ∧ xs.length ≤ 5 ^ d ∧ FrX id α α' ∧ IsTape α' id L at_

set_option maxRecDepth 100000 in
set_option maxHeartbeats 4000000 in
theorem table_ok (L : List Int) (id : Nat) (parts : Int) : ∀ (d : Nat), d ≤ 8 → ∀ (at_ : Int) (α : AH), IsTape α id L at_ →
    NCalls Try.prog 23 [.pointer (some ⟨id, 0, none⟩), .int .i64 parts, .int .i64 (d : Int)] α (fun v α' => TableQ id L d α v α') := by
  intro d
  induction d with
  | zero =>
    intro hd at_ α hT
    have hid : id < α.n := hT.2.2.2.1
    refine ncalls_of (by kernel_rfl) Try.func23 rfl (by rw [Try.ntmps23]; simp) ?_
    rw [Try.ntmps23, Try.results23]
    repeat (first
      | (refine nw_seq (nw_region fun K hK => ?_); simp []; refine hK _ _ ?_; clear hK K)
      | (refine nw_region fun K hK => ?_; simp []; refine hK _ _ ?_; clear hK K)
      | refine nw_seq ?_
      | refine nw_block ?_
      | (refine nw_yes ?_ ?_; focus (simp []; done))
      | (refine nw_no ?_ ?_; focus (simp []; done))
      | refine nw_skip ?_
      | refine nw_exit ?_
      | refine nw_ret ?_)
    refine nw_region fun K hK => ?_
    simp []
    refine (next_ok L at_ 7 id _ hT).mono fun w β hw => ?_
    obtain ⟨k, rfl, k0, k1, hX, at1, hT1⟩ := hw
    simp [contK, ]
    refine hK _ _ ?_
    clear hK K
    by_cases c0 : k = 0
    ·
      repeat (first
        | (refine nw_seq (nw_region fun K hK => ?_); simp [c0]; refine hK _ _ ?_; clear hK K)
        | (refine nw_region fun K hK => ?_; simp [c0]; refine hK _ _ ?_; clear hK K)
        | refine nw_seq ?_
        | refine nw_block ?_
        | (refine nw_yes ?_ ?_; focus (simp [c0]; done))
        | (refine nw_no ?_ ?_; focus (simp [c0]; done))
        | refine nw_skip ?_
        | refine nw_exit ?_
        | refine nw_ret ?_)
      refine nw_region fun K hK => ?_
      simp []
      refine (next_ok L at1 4 id _ hT1).mono fun w γ hw => ?_
      obtain ⟨r, rfl, r0, r1, hX1, at2, hT2⟩ := hw
      have r1 := r1 (by omega)
      have e1 : IntKind.i64.wrap (1 + r) = 1 + r := w64 (by omega)
      simp [contK, e1]
      refine hK _ _ ?_
      clear hK K
      repeat (first
        | (refine nw_seq (nw_region fun K hK => ?_); simp []; refine hK _ _ ?_; clear hK K)
        | (refine nw_region fun K hK => ?_; simp []; refine hK _ _ ?_; clear hK K)
        | refine nw_seq ?_
        | refine nw_block ?_
        | (refine nw_yes ?_ ?_; focus (simp []; done))
        | (refine nw_no ?_ ?_; focus (simp []; done))
        | refine nw_skip ?_
        | refine nw_exit ?_
        | refine nw_ret ?_)
      have hfr : Fr γ.n γ (γ.alloc ⟨[.int .i64 2, .int .i64 0, .int .i64 (1 + r)], 55, true⟩) := (Fr.refl _ _).alloc (Nat.le_refl _) _
      have hXX := hX.trans hX1
      simp
      exact ⟨[⟨2, 0, 1 + r⟩], at2, Ow.one hXX.n rfl _, by simp, by simp, hXX.fr hfr hXX.n, hT2.fr hfr⟩
    · have c0' : (k == 0) = false := by simpa using c0
      repeat (first
        | (refine nw_seq (nw_region fun K hK => ?_); simp [c0, c0']; refine hK _ _ ?_; clear hK K)
        | (refine nw_region fun K hK => ?_; simp [c0, c0']; refine hK _ _ ?_; clear hK K)
        | refine nw_seq ?_
        | refine nw_block ?_
        | (refine nw_yes ?_ ?_; focus (simp [c0, c0']; done))
        | (refine nw_no ?_ ?_; focus (simp [c0, c0']; done))
        | refine nw_skip ?_
        | refine nw_exit ?_
        | refine nw_ret ?_)
      refine nw_region fun K hK => ?_
      simp []
      refine (next_ok L at1 parts id _ hT1).mono fun w γ hw => ?_
      obtain ⟨p, rfl, p0, p1, hX1, at2, hT2⟩ := hw
      simp [contK]
      refine (next_ok L at2 4 id _ hT2).mono fun w γ' hw => ?_
      obtain ⟨r, rfl, r0, r1, hX2, at3, hT3⟩ := hw
      have r1 := r1 (by omega)
      have e1 : IntKind.i64.wrap (1 + r) = 1 + r := w64 (by omega)
      simp [contK, e1]
      refine hK _ _ ?_
      clear hK K
      repeat (first
        | (refine nw_seq (nw_region fun K hK => ?_); simp []; refine hK _ _ ?_; clear hK K)
        | (refine nw_region fun K hK => ?_; simp []; refine hK _ _ ?_; clear hK K)
        | refine nw_seq ?_
        | refine nw_block ?_
        | (refine nw_yes ?_ ?_; focus (simp []; done))
        | (refine nw_no ?_ ?_; focus (simp []; done))
        | refine nw_skip ?_
        | refine nw_exit ?_
        | refine nw_ret ?_)
      have hfr : Fr γ'.n γ' (γ'.alloc ⟨[.int .i64 1, .int .i64 p, .int .i64 (1 + r)], 55, true⟩) := (Fr.refl _ _).alloc (Nat.le_refl _) _
      have hXX := (hX.trans hX1).trans hX2
      simp
      exact ⟨[⟨1, p, 1 + r⟩], at3, Ow.one hXX.n rfl _, by simp, by simp, hXX.fr hfr hXX.n, hT3.fr hfr⟩
  | succ d ih =>
    intro hd at_ α hT
    have ih := ih (by omega)
    have hid : id < α.n := hT.2.2.2.1
    have h5 : 5 ^ (d + 1) = 5 * 5 ^ d := by rw [Nat.pow_succ]; omega
    have h51 : 1 ≤ 5 ^ d := Nat.one_le_pow _ _ (by omega)
    have h58 : 5 ^ d ≤ 5 ^ 7 := Nat.pow_le_pow_right (by omega) (by omega)
    have cd : ¬ ((d : Int) + 1 < 1) := by omega
    have ed : IntKind.i64.wrap ((d : Int) + 1 - 1) = d := by rw [w64 (by omega)]; omega
    have ed' : IntKind.i64.wrap (d : Int) = d := w64 (by omega)
    refine ncalls_of (by kernel_rfl) Try.func23 rfl (by rw [Try.ntmps23]; simp) ?_
    rw [Try.ntmps23, Try.results23]
    repeat (first
      | (refine nw_seq (nw_region fun K hK => ?_); simp []; refine hK _ _ ?_; clear hK K)
      | (refine nw_region fun K hK => ?_; simp []; refine hK _ _ ?_; clear hK K)
      | refine nw_seq ?_
      | refine nw_block ?_
      | (refine nw_yes ?_ ?_; focus (simp []; done))
      | (refine nw_no ?_ ?_; focus (simp []; done))
      | refine nw_skip ?_
      | refine nw_exit ?_
      | refine nw_ret ?_)
    refine nw_region fun K hK => ?_
    simp []
    refine (next_ok L at_ 7 id _ hT).mono fun w β hw => ?_
    obtain ⟨k, rfl, k0, k1, hX, at1, hT1⟩ := hw
    simp [contK, ]
    refine hK _ _ ?_
    clear hK K
    by_cases c2 : k < 2
    · by_cases c0 : k = 0
      ·
        repeat (first
          | (refine nw_seq (nw_region fun K hK => ?_); simp [c0, cd, c2]; refine hK _ _ ?_; clear hK K)
          | (refine nw_region fun K hK => ?_; simp [c0, cd, c2]; refine hK _ _ ?_; clear hK K)
          | refine nw_seq ?_
          | refine nw_block ?_
          | (refine nw_yes ?_ ?_; focus (simp [c0, cd, c2]; done))
          | (refine nw_no ?_ ?_; focus (simp [c0, cd, c2]; done))
          | refine nw_skip ?_
          | refine nw_exit ?_
          | refine nw_ret ?_)
        refine nw_region fun K hK => ?_
        simp []
        refine (next_ok L at1 4 id _ hT1).mono fun w γ hw => ?_
        obtain ⟨r, rfl, r0, r1, hX1, at2, hT2⟩ := hw
        have r1 := r1 (by omega)
        have e1 : IntKind.i64.wrap (1 + r) = 1 + r := w64 (by omega)
        simp [contK, e1]
        refine hK _ _ ?_
        clear hK K
        repeat (first
          | (refine nw_seq (nw_region fun K hK => ?_); simp []; refine hK _ _ ?_; clear hK K)
          | (refine nw_region fun K hK => ?_; simp []; refine hK _ _ ?_; clear hK K)
          | refine nw_seq ?_
          | refine nw_block ?_
          | (refine nw_yes ?_ ?_; focus (simp []; done))
          | (refine nw_no ?_ ?_; focus (simp []; done))
          | refine nw_skip ?_
          | refine nw_exit ?_
          | refine nw_ret ?_)
        have hfr : Fr γ.n γ (γ.alloc ⟨[.int .i64 2, .int .i64 0, .int .i64 (1 + r)], 55, true⟩) := (Fr.refl _ _).alloc (Nat.le_refl _) _
        have hXX := hX.trans hX1
        simp
        exact ⟨[⟨2, 0, 1 + r⟩], at2, Ow.one hXX.n rfl _, by simp, by simp; omega, hXX.fr hfr hXX.n, hT2.fr hfr⟩
      · have c0' : (k == 0) = false := by simpa using c0
        repeat (first
          | (refine nw_seq (nw_region fun K hK => ?_); simp [c0, c0', cd, c2]; refine hK _ _ ?_; clear hK K)
          | (refine nw_region fun K hK => ?_; simp [c0, c0', cd, c2]; refine hK _ _ ?_; clear hK K)
          | refine nw_seq ?_
          | refine nw_block ?_
          | (refine nw_yes ?_ ?_; focus (simp [c0, c0', cd, c2]; done))
          | (refine nw_no ?_ ?_; focus (simp [c0, c0', cd, c2]; done))
          | refine nw_skip ?_
          | refine nw_exit ?_
          | refine nw_ret ?_)
        refine nw_region fun K hK => ?_
        simp []
        refine (next_ok L at1 parts id _ hT1).mono fun w γ hw => ?_
        obtain ⟨p, rfl, p0, p1, hX1, at2, hT2⟩ := hw
        simp [contK]
        refine (next_ok L at2 4 id _ hT2).mono fun w γ' hw => ?_
        obtain ⟨r, rfl, r0, r1, hX2, at3, hT3⟩ := hw
        have r1 := r1 (by omega)
        have e1 : IntKind.i64.wrap (1 + r) = 1 + r := w64 (by omega)
        simp [contK, e1]
        refine hK _ _ ?_
        clear hK K
        repeat (first
          | (refine nw_seq (nw_region fun K hK => ?_); simp []; refine hK _ _ ?_; clear hK K)
          | (refine nw_region fun K hK => ?_; simp []; refine hK _ _ ?_; clear hK K)
          | refine nw_seq ?_
          | refine nw_block ?_
          | (refine nw_yes ?_ ?_; focus (simp []; done))
          | (refine nw_no ?_ ?_; focus (simp []; done))
          | refine nw_skip ?_
          | refine nw_exit ?_
          | refine nw_ret ?_)
        have hfr : Fr γ'.n γ' (γ'.alloc ⟨[.int .i64 1, .int .i64 p, .int .i64 (1 + r)], 55, true⟩) := (Fr.refl _ _).alloc (Nat.le_refl _) _
        have hXX := (hX.trans hX1).trans hX2
        simp
        exact ⟨[⟨1, p, 1 + r⟩], at3, Ow.one hXX.n rfl _, by simp, by simp; omega, hXX.fr hfr hXX.n, hT3.fr hfr⟩
    by_cases c3 : k = 2
    ·
      repeat (first
        | (refine nw_seq (nw_region fun K hK => ?_); simp [cd, c2, c3]; refine hK _ _ ?_; clear hK K)
        | (refine nw_region fun K hK => ?_; simp [cd, c2, c3]; refine hK _ _ ?_; clear hK K)
        | refine nw_seq ?_
        | refine nw_block ?_
        | (refine nw_yes ?_ ?_; focus (simp [cd, c2, c3]; done))
        | (refine nw_no ?_ ?_; focus (simp [cd, c2, c3]; done))
        | refine nw_skip ?_
        | refine nw_exit ?_
        | refine nw_ret ?_)
      refine nw_region fun K hK => ?_
      simp []
      refine (next_ok L at1 3 id _ hT1).mono fun w γ hw => ?_
      obtain ⟨r, rfl, r0, r1, hX1, at2, hT2⟩ := hw
      have r1 := r1 (by omega)
      have e1 : IntKind.i64.wrap (1 + r) = 1 + r := w64 (by omega)
      simp [contK, e1, ed, ed']
      have hfr : Fr γ.n γ (γ.alloc ⟨[.int .i64 4, .int .i64 0, .int .i64 (1 + r)], 55, true⟩) := (Fr.refl _ _).alloc (Nat.le_refl _) _
      have hXX := hX.trans hX1
      have o1 : OwN α.n (γ.alloc ⟨[.int .i64 4, .int .i64 0, .int .i64 (1 + r)], 55, true⟩) (.slice (some ⟨γ.n, 0, none⟩) 1 0) [⟨4, 0, 1 + r⟩] := Ow.one hXX.n rfl _
      have hXX := hXX.fr hfr hXX.n
      have hT2 := hT2.fr hfr
      generalize γ.alloc _ = γ1 at *
      refine (ih at2 _ hT2).mono fun w γ2 hw => ?_
      obtain ⟨xs, at3, o2, x1, x2, hX2, hT3⟩ := hw
      have o1 := Ow.frx o1 hX2 hid flat_mono
      obtain ⟨v', α2, a1, a2, a3, a4⟩ := o1.append el49 (Nat.le_trans hXX.n hX2.n) o2.sl (node_apart _) (by simp; omega)
      simp [contK, a1]
      refine hK _ _ ?_
      clear hK K
      repeat (first
        | (refine nw_seq (nw_region fun K hK => ?_); simp []; refine hK _ _ ?_; clear hK K)
        | (refine nw_region fun K hK => ?_; simp []; refine hK _ _ ?_; clear hK K)
        | refine nw_seq ?_
        | refine nw_block ?_
        | (refine nw_yes ?_ ?_; focus (simp []; done))
        | (refine nw_no ?_ ?_; focus (simp []; done))
        | refine nw_skip ?_
        | refine nw_exit ?_
        | refine nw_ret ?_)
      simp
      exact ⟨_, at3, a2, by simp, by simp; omega, (hXX.trans hX2).fr a3 (Nat.le_refl _), hT3.kp a4 a3.n (show (31 : Nat) ≠ 55 by decide) (show (3 : Nat) ≠ 55 by decide)⟩
    have c3' : (k == 2) = false := by simpa using c3
    repeat (first
      | (refine nw_seq (nw_region fun K hK => ?_); simp [cd, c2, c3, c3']; refine hK _ _ ?_; clear hK K)
      | (refine nw_region fun K hK => ?_; simp [cd, c2, c3, c3']; refine hK _ _ ?_; clear hK K)
      | refine nw_seq ?_
      | refine nw_block ?_
      | (refine nw_yes ?_ ?_; focus (simp [cd, c2, c3, c3']; done))
      | (refine nw_no ?_ ?_; focus (simp [cd, c2, c3, c3']; done))
      | refine nw_skip ?_
      | refine nw_exit ?_
      | refine nw_ret ?_)
    refine nw_region fun K hK => ?_
    simp []
    refine (next_ok L at1 4 id _ hT1).mono fun w γ hw => ?_
    obtain ⟨r, rfl, r0, r1, hX1, at2, hT2⟩ := hw
    have r1 := r1 (by omega)
    have e1 : IntKind.i64.wrap (1 + r) = 1 + r := w64 (by omega)
    simp [contK, e1]
    refine hK _ _ ?_
    clear hK K
    repeat (first
      | (refine nw_seq (nw_region fun K hK => ?_); simp []; refine hK _ _ ?_; clear hK K)
      | (refine nw_region fun K hK => ?_; simp []; refine hK _ _ ?_; clear hK K)
      | refine nw_seq ?_
      | refine nw_block ?_
      | (refine nw_yes ?_ ?_; focus (simp []; done))
      | (refine nw_no ?_ ?_; focus (simp []; done))
      | refine nw_skip ?_
      | refine nw_exit ?_
      | refine nw_ret ?_)
    have hfr : Fr γ.n γ (γ.alloc ⟨[.int .i64 3, .int .i64 0, .int .i64 (1 + r)], 55, true⟩) := (Fr.refl _ _).alloc (Nat.le_refl _) _
    have hXX := hX.trans hX1
    have o1 : OwN α.n (γ.alloc ⟨[.int .i64 3, .int .i64 0, .int .i64 (1 + r)], 55, true⟩) (.slice (some ⟨γ.n, 0, none⟩) 1 0) [⟨3, 0, 1 + r⟩] := Ow.one hXX.n rfl _
    have hXX := hXX.fr hfr hXX.n
    have hT2 := hT2.fr hfr
    generalize γ.alloc _ = γ1 at *
    obtain ⟨n, hn⟩ := Int.eq_ofNat_of_zero_le (show 0 ≤ 1 + r by omega)
    refine nw_loop (fun m s α' => ∃ (i : Nat) (ys : List Nd) (at3 : Int), m = n - i ∧ i ≤ n ∧ s 0 = .pointer (some ⟨id, 0, none⟩) ∧ s 1 = .int .i64 parts ∧ s 2 = .int .i64 ((d : Int) + 1) ∧ s 8 = .int .i64 (1 + r) ∧ s 10 = .int .i64 (i : Int) ∧
        OwN α.n α' (s 9) ys ∧ 1 ≤ ys.length ∧ ys.length ≤ 1 + i * 5 ^ d ∧ FrX id α α' ∧ IsTape α' id L at3)
      n ⟨0, _, at2, rfl, by omega, by simp, by simp, by simp, by simp, by simp, by simp; exact o1, by simp, by simp, hXX, hT2⟩ ?_
    rintro m s α' ⟨i, ys, at3, rfl, hi, s0, s1, s2, s8, s10, ho, y0, y1, hX', hT'⟩
    by_cases c4 : i < n
    · have c4' : (i : Int) < 1 + r := by omega
      have hin : i * 5 ^ d ≤ 3 * 5 ^ d := Nat.mul_le_mul_right _ (by omega)
      have e2 : IntKind.i64.wrap ((i : Int) + 1) = (i : Int) + 1 := w64 (by omega)
      repeat (first
        | (refine nw_seq (nw_region fun K hK => ?_); simp [s8, s10, c4']; refine hK _ _ ?_; clear hK K)
        | (refine nw_region fun K hK => ?_; simp [s8, s10, c4']; refine hK _ _ ?_; clear hK K)
        | refine nw_seq ?_
        | refine nw_block ?_
        | (refine nw_yes ?_ ?_; focus (simp [s8, s10, c4']; done))
        | (refine nw_no ?_ ?_; focus (simp [s8, s10, c4']; done))
        | refine nw_skip ?_
        | refine nw_exit ?_
        | refine nw_ret ?_)
      refine nw_region fun K hK => ?_
      simp [s0, s1, s2, ed, ed']
      refine (ih at3 _ hT').mono fun w γ2 hw => ?_
      obtain ⟨xs, at4, o2, x1, x2, hX2, hT3⟩ := hw
      have o1 := Ow.frx ho hX2 hid flat_mono
      obtain ⟨v', α2, a1, a2, a3, a4⟩ := o1.append el49 (Nat.le_trans hX'.n hX2.n) o2.sl (node_apart _) (by omega)
      simp [contK, a1]
      refine hK _ _ ?_
      clear hK K
      repeat (first
        | (refine nw_seq (nw_region fun K hK => ?_); simp [s10, e2]; refine hK _ _ ?_; clear hK K)
        | (refine nw_region fun K hK => ?_; simp [s10, e2]; refine hK _ _ ?_; clear hK K)
        | refine nw_seq ?_
        | refine nw_block ?_
        | (refine nw_yes ?_ ?_; focus (simp [s10, e2]; done))
        | (refine nw_no ?_ ?_; focus (simp [s10, e2]; done))
        | refine nw_skip ?_
        | refine nw_exit ?_
        | refine nw_ret ?_)
      refine ⟨n - (i + 1), by omega, i + 1, ys ++ xs, at4, rfl, by omega, by simp [s0], by simp [s1], by simp [s2], by simp [s8], by simp, by simp; exact a2, by simp; omega, ?_, (hX'.trans hX2).fr a3 (Nat.le_refl _), hT3.kp a4 a3.n (show (31 : Nat) ≠ 55 by decide) (show (3 : Nat) ≠ 55 by decide)⟩
      rw [List.length_append, Nat.succ_mul]
      omega
    · have : i = n := by omega
      subst this
      have c4' : ¬ ((i : Int) < 1 + r) := by omega
      have hin : i * 5 ^ d ≤ 4 * 5 ^ d := Nat.mul_le_mul_right _ (by omega)
      repeat (first
        | (refine nw_seq (nw_region fun K hK => ?_); simp [s8, s10, c4']; refine hK _ _ ?_; clear hK K)
        | (refine nw_region fun K hK => ?_; simp [s8, s10, c4']; refine hK _ _ ?_; clear hK K)
        | refine nw_seq ?_
        | refine nw_block ?_
        | (refine nw_yes ?_ ?_; focus (simp [s8, s10, c4']; done))
        | (refine nw_no ?_ ?_; focus (simp [s8, s10, c4']; done))
        | refine nw_skip ?_
        | refine nw_exit ?_
        | refine nw_ret ?_)
      simp
      exact ⟨ys, at3, ho, y0, by omega, hX', hT'⟩
end Go.Proofs.Ytggkeldedennfaa
