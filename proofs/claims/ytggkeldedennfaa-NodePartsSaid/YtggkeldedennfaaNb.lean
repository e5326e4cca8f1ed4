/- Contracts: node.Kids, whole, add, times, Same. -/
import Derived.Test.YtggkeldedennfaaNa
set_option linter.unusedVariables false
set_option linter.unusedSimpArgs false
namespace Go.Proofs.Ytggkeldedennfaa
open Go Go.RowKit Go.Lay Go.Nod

abbrev Nodes (α : AH) (v : Value) (xs : List Nd) : Prop := Sl 55 nodeK α v xs

set_option maxRecDepth 100000 in
theorem add_ok (a b : Int) (α : AH) (ha : 0 ≤ a) (hb : 0 ≤ b) (ha' : a ≤ 4097) : NCalls Try.prog 66 [.int .i64 a, .int .i64 b] α (fun v α' => v = .int .i64 (min 4097 (a + b)) ∧ α' = α) := by
  refine ncalls_of (by kernel_rfl) Try.func66 rfl (by rw [Try.ntmps66]; simp) ?_
  rw [Try.ntmps66, Try.results66]
  by_cases c1 : b < 4097
  ·
    have e1 : IntKind.i64.wrap (a + b) = a + b := w64 (by omega)
    by_cases c2 : a + b < 4097
    ·
      repeat (first
        | (refine nw_seq (nw_region fun K hK => ?_); simp [c1, c2, e1]; refine hK _ _ ?_; clear hK K)
        | (refine nw_region fun K hK => ?_; simp [c1, c2, e1]; refine hK _ _ ?_; clear hK K)
        | refine nw_seq ?_
        | refine nw_block ?_
        | (refine nw_yes ?_ ?_; focus (simp [c1, c2, e1]; done))
        | (refine nw_no ?_ ?_; focus (simp [c1, c2, e1]; done))
        | refine nw_skip ?_
        | refine nw_exit ?_
        | refine nw_ret ?_)
      simp
      omega
    ·
      repeat (first
        | (refine nw_seq (nw_region fun K hK => ?_); simp [c1, c2, e1]; refine hK _ _ ?_; clear hK K)
        | (refine nw_region fun K hK => ?_; simp [c1, c2, e1]; refine hK _ _ ?_; clear hK K)
        | refine nw_seq ?_
        | refine nw_block ?_
        | (refine nw_yes ?_ ?_; focus (simp [c1, c2, e1]; done))
        | (refine nw_no ?_ ?_; focus (simp [c1, c2, e1]; done))
        | refine nw_skip ?_
        | refine nw_exit ?_
        | refine nw_ret ?_)
      simp
      omega
  ·
    have e1 : IntKind.i64.wrap (a + 4097) = a + 4097 := w64 (by omega)
    by_cases c2 : a + 4097 < 4097
    ·
      repeat (first
        | (refine nw_seq (nw_region fun K hK => ?_); simp [c1, c2, e1]; refine hK _ _ ?_; clear hK K)
        | (refine nw_region fun K hK => ?_; simp [c1, c2, e1]; refine hK _ _ ?_; clear hK K)
        | refine nw_seq ?_
        | refine nw_block ?_
        | (refine nw_yes ?_ ?_; focus (simp [c1, c2, e1]; done))
        | (refine nw_no ?_ ?_; focus (simp [c1, c2, e1]; done))
        | refine nw_skip ?_
        | refine nw_exit ?_
        | refine nw_ret ?_)
      simp
      omega
    ·
      repeat (first
        | (refine nw_seq (nw_region fun K hK => ?_); simp [c1, c2, e1]; refine hK _ _ ?_; clear hK K)
        | (refine nw_region fun K hK => ?_; simp [c1, c2, e1]; refine hK _ _ ?_; clear hK K)
        | refine nw_seq ?_
        | refine nw_block ?_
        | (refine nw_yes ?_ ?_; focus (simp [c1, c2, e1]; done))
        | (refine nw_no ?_ ?_; focus (simp [c1, c2, e1]; done))
        | refine nw_skip ?_
        | refine nw_exit ?_
        | refine nw_ret ?_)
      simp
      omega

theorem min_mul (n s : Int) (h1 : 1 ≤ n) (h2 : 0 ≤ s) : min 4097 (min 4097 n * min 4097 s) = min 4097 (n * s) := by
  by_cases hs : s = 0
  · subst hs; rw [Int.mul_zero, show min (4097 : Int) 0 = 0 from by decide, Int.mul_zero]; decide
  by_cases hn : n ≤ 4097
  · rw [Int.min_eq_right hn]
    by_cases hs' : s ≤ 4097
    · rw [Int.min_eq_right hs']
    · rw [Int.min_eq_left (by omega : (4097 : Int) ≤ s)]
      have a1 : 1 * 4097 ≤ n * 4097 := Int.mul_le_mul_of_nonneg_right h1 (by omega)
      have a2 : 1 * s ≤ n * s := Int.mul_le_mul_of_nonneg_right h1 (by omega)
      omega
  · rw [Int.min_eq_left (by omega : (4097 : Int) ≤ n)]
    have a1 : 4097 * 1 ≤ 4097 * min 4097 s := Int.mul_le_mul_of_nonneg_left (by omega) (by omega)
    have a2 : n * 1 ≤ n * s := Int.mul_le_mul_of_nonneg_left (by omega) (by omega)
    omega

set_option maxRecDepth 100000 in
theorem times_ok (n s : Int) (α : AH) (h1 : 1 ≤ n) (h2 : 0 ≤ s) (h3 : s ≤ 4097) : NCalls Try.prog 65 [.int .i64 n, .int .i64 s] α (fun v α' => v = .int .i64 (min 4097 (n * s)) ∧ α' = α) := by
  have hm := min_mul n s h1 h2
  rw [Int.min_eq_right h3] at hm
  refine ncalls_of (by kernel_rfl) Try.func65 rfl (by rw [Try.ntmps65]; simp) ?_
  rw [Try.ntmps65, Try.results65]
  have b2 : 0 ≤ min 4097 n * s := Int.mul_nonneg (by omega) h2
  have b3 : min 4097 n * s ≤ 4097 * 4097 := Int.mul_le_mul (by omega) h3 h2 (by omega)
  have e0 : (if n < 4097 then n else 4097) = min 4097 n := by split <;> omega
  generalize hq : min 4097 n = q at *
  generalize hp : q * s = p at *
  have e1 : IntKind.i64.wrap (p) = p := w64 (by omega)
  by_cases c2 : p < 4097
  ·
    repeat (first
      | (refine nw_seq (nw_region fun K hK => ?_); simp [c2, e0, e1, hp]; refine hK _ _ ?_; clear hK K)
      | (refine nw_region fun K hK => ?_; simp [c2, e0, e1, hp]; refine hK _ _ ?_; clear hK K)
      | refine nw_seq ?_
      | refine nw_block ?_
      | (refine nw_yes ?_ ?_; focus (simp [c2, e0, e1, hp]; done))
      | (refine nw_no ?_ ?_; focus (simp [c2, e0, e1, hp]; done))
      | refine nw_skip ?_
      | refine nw_exit ?_
      | refine nw_ret ?_)
    simp
    omega
  ·
    repeat (first
      | (refine nw_seq (nw_region fun K hK => ?_); simp [c2, e0, e1, hp]; refine hK _ _ ?_; clear hK K)
      | (refine nw_region fun K hK => ?_; simp [c2, e0, e1, hp]; refine hK _ _ ?_; clear hK K)
      | refine nw_seq ?_
      | refine nw_block ?_
      | (refine nw_yes ?_ ?_; focus (simp [c2, e0, e1, hp]; done))
      | (refine nw_no ?_ ?_; focus (simp [c2, e0, e1, hp]; done))
      | refine nw_skip ?_
      | refine nw_exit ?_
      | refine nw_ret ?_)
    simp
    omega

set_option maxRecDepth 100000 in
theorem whole_ok (xs : List Nd) (α : AH) (v : Value) (h : Nodes α v xs) (hl : xs.length ≤ 1000000000000) :
    NCalls Try.prog 51 [v] α (fun r α' => r = .bool (decide (sizeM xs 0 = xs.length ∧ 0 < xs.length)) ∧ Fr α.n α α') := by
  obtain ⟨id, off, hlen, hidx, hld⟩ := h.rd (t := 49) Try.underlying49 sz55
  refine ncalls_of (by kernel_rfl) Try.func51 rfl (by rw [Try.ntmps51]; simp) ?_
  rw [Try.ntmps51, Try.results51]
  by_cases c1 : 0 < xs.length
  · have c1' : (0 : Int) < xs.length := by omega
    repeat (first
      | (refine nw_seq (nw_region fun K hK => ?_); simp []; refine hK _ _ ?_; clear hK K)
      | (refine nw_region fun K hK => ?_; simp []; refine hK _ _ ?_; clear hK K)
      | refine nw_seq ?_
      | refine nw_block ?_
      | (refine nw_yes ?_ ?_; focus (simp []; done))
      | (refine nw_no ?_ ?_; focus (simp []; done))
      | refine nw_skip ?_
      | refine nw_exit ?_
      | refine nw_ret ?_)
    refine nw_region fun K hK => ?_
    simp [hlen, c1, c1']
    refine (size_ok xs 0 _ v h hl).mono fun r β hr => ?_
    obtain ⟨rfl, hf⟩ := hr
    simp [contK, hlen, c1, c1']
    refine hK _ _ ?_
    clear hK K
    repeat (first
      | (refine nw_seq (nw_region fun K hK => ?_); simp []; refine hK _ _ ?_; clear hK K)
      | (refine nw_region fun K hK => ?_; simp []; refine hK _ _ ?_; clear hK K)
      | refine nw_seq ?_
      | refine nw_block ?_
      | (refine nw_yes ?_ ?_; focus (simp []; done))
      | (refine nw_no ?_ ?_; focus (simp []; done))
      | refine nw_skip ?_
      | refine nw_exit ?_
      | refine nw_ret ?_)
    simp [c1, hf]
    rfl
  ·
    repeat (first
      | (refine nw_seq (nw_region fun K hK => ?_); simp [hlen, c1]; refine hK _ _ ?_; clear hK K)
      | (refine nw_region fun K hK => ?_; simp [hlen, c1]; refine hK _ _ ?_; clear hK K)
      | refine nw_seq ?_
      | refine nw_block ?_
      | (refine nw_yes ?_ ?_; focus (simp [hlen, c1]; done))
      | (refine nw_no ?_ ?_; focus (simp [hlen, c1]; done))
      | refine nw_skip ?_
      | refine nw_exit ?_
      | refine nw_ret ?_)
    simp [c1, Fr.refl]

set_option maxRecDepth 100000 in
theorem kidsNo_ok (xs : List Nd) (at_ : Int) (α : AH) (v : Value) (h : Nodes α v xs) (hl : xs.length ≤ 1000000000000) (h0 : sizeM xs at_ = 0) :
    NCalls Try.prog 29 [v, .int .i64 at_] α (fun r α' => Ow α.n 3 (intK .i64) α' r [] ∧ Fr α.n α α') := by
  refine ncalls_of (by kernel_rfl) Try.func29 rfl (by rw [Try.ntmps29]; simp) ?_
  rw [Try.ntmps29, Try.results29]
  repeat (first
    | (refine nw_seq (nw_region fun K hK => ?_); simp []; refine hK _ _ ?_; clear hK K)
    | (refine nw_region fun K hK => ?_; simp []; refine hK _ _ ?_; clear hK K)
    | refine nw_seq ?_
    | refine nw_block ?_
    | (refine nw_yes ?_ ?_; focus (simp []; done))
    | (refine nw_no ?_ ?_; focus (simp []; done))
    | refine nw_skip ?_
    | refine nw_exit ?_
    | refine nw_ret ?_)
  refine nw_region fun K hK => ?_
  simp []
  refine (size_ok xs at_ _ v h hl).mono fun r β hr => ?_
  obtain ⟨rfl, hf⟩ := hr
  simp [contK, h0]
  refine hK _ _ ?_
  clear hK K
  repeat (first
    | (refine nw_seq (nw_region fun K hK => ?_); simp []; refine hK _ _ ?_; clear hK K)
    | (refine nw_region fun K hK => ?_; simp []; refine hK _ _ ?_; clear hK K)
    | refine nw_seq ?_
    | refine nw_block ?_
    | (refine nw_yes ?_ ?_; focus (simp []; done))
    | (refine nw_no ?_ ?_; focus (simp []; done))
    | refine nw_skip ?_
    | refine nw_exit ?_
    | refine nw_ret ?_)
  refine nw_loop (fun n s α' => s 5 = .int .i64 0 ∧ s 6 = .slice none 0 0 ∧ α' = β) 0 ⟨by simp, by simp, rfl⟩ ?_
  rintro n s α' ⟨s5, s6, rfl⟩
  repeat (first
    | (refine nw_seq (nw_region fun K hK => ?_); simp [s5, s6]; refine hK _ _ ?_; clear hK K)
    | (refine nw_region fun K hK => ?_; simp [s5, s6]; refine hK _ _ ?_; clear hK K)
    | refine nw_seq ?_
    | refine nw_block ?_
    | (refine nw_yes ?_ ?_; focus (simp [s5, s6]; done))
    | (refine nw_no ?_ ?_; focus (simp [s5, s6]; done))
    | refine nw_skip ?_
    | refine nw_exit ?_
    | refine nw_ret ?_)
  simp [hf]
  exact .nil

set_option maxRecDepth 100000 in
theorem kidsAt_ok (xs : List Nd) (j : Nat) (x : Nd) (ks : F) (α : AH) (v : Value) (h : Nodes α v xs) (hl : xs.length ≤ 1000000000000) (h0 : At xs j x ks) :
    NCalls Try.prog 29 [v, .int .i64 (j : Int)] α (fun r α' => Ow α.n 3 (intK .i64) α' r ((F.places (j + 1) ks).map Int.ofNat) ∧ Fr α.n α α') := by
  have hlt := h0.lt
  refine ncalls_of (by kernel_rfl) Try.func29 rfl (by rw [Try.ntmps29]; simp) ?_
  rw [Try.ntmps29, Try.results29]
  repeat (first
    | (refine nw_seq (nw_region fun K hK => ?_); simp []; refine hK _ _ ?_; clear hK K)
    | (refine nw_region fun K hK => ?_; simp []; refine hK _ _ ?_; clear hK K)
    | refine nw_seq ?_
    | refine nw_block ?_
    | (refine nw_yes ?_ ?_; focus (simp []; done))
    | (refine nw_no ?_ ?_; focus (simp []; done))
    | refine nw_skip ?_
    | refine nw_exit ?_
    | refine nw_ret ?_)
  refine nw_region fun K hK => ?_
  simp []
  refine (size_ok xs j _ v h hl).mono fun r β hr => ?_
  obtain ⟨rfl, hf⟩ := hr
  rw [h0.size]
  simp [contK, ]
  refine hK _ _ ?_
  clear hK K
  have e1 : IntKind.i64.wrap ((j : Int) + 1) = (j : Int) + 1 := w64 (by omega)
  have e2 : IntKind.i64.wrap ((j : Int) + (ks.flat.length + 1)) = (j : Int) + (ks.flat.length + 1) := w64 (by omega)
  repeat (first
    | (refine nw_seq (nw_region fun K hK => ?_); simp [e1]; refine hK _ _ ?_; clear hK K)
    | (refine nw_region fun K hK => ?_; simp [e1]; refine hK _ _ ?_; clear hK K)
    | refine nw_seq ?_
    | refine nw_block ?_
    | (refine nw_yes ?_ ?_; focus (simp [e1]; done))
    | (refine nw_no ?_ ?_; focus (simp [e1]; done))
    | refine nw_skip ?_
    | refine nw_exit ?_
    | refine nw_ret ?_)
  refine nw_loop (fun n s α' => ∃ (p : Nat) (r : F) (ys : List Int) (u : Value), n = r.cnt ∧ Lies xs p r ∧ p + r.flat.length = j + 1 + ks.flat.length ∧ s 0 = v ∧ s 1 = .int .i64 (j : Int) ∧ s 5 = .int .i64 ((ks.flat.length : Int) + 1) ∧ s 6 = u ∧ s 7 = .int .i64 (p : Int) ∧ Fr α.n α α' ∧
      Ow α.n 3 (intK .i64) α' u ys ∧ ys.length ≤ p ∧ ys ++ (F.places p r).map Int.ofNat = (F.places (j + 1) ks).map Int.ofNat)
    ks.cnt ⟨j + 1, ks, [], _, rfl, h0.kids, rfl, by simp, by simp, by simp, by simp, by simp, hf, .nil, by simp, by simp⟩ ?_
  rintro n s α' ⟨p, r, ys, u, rfl, hL, hp, s0, s1, s5, s6, s7, hf', ho, hy, hys⟩
  cases r with
  | nil =>
    have c1 : ¬ ((p : Int) < j + (ks.flat.length + 1)) := by simp [F.flat] at hp; omega
    repeat (first
      | (refine nw_seq (nw_region fun K hK => ?_); simp [s0, s1, s5, s6, s7, e2, c1, (by omega : (0 : Int) < (ks.flat.length : Int) + 1)]; refine hK _ _ ?_; clear hK K)
      | (refine nw_region fun K hK => ?_; simp [s0, s1, s5, s6, s7, e2, c1, (by omega : (0 : Int) < (ks.flat.length : Int) + 1)]; refine hK _ _ ?_; clear hK K)
      | refine nw_seq ?_
      | refine nw_block ?_
      | (refine nw_yes ?_ ?_; focus (simp [s0, s1, s5, s6, s7, e2, c1, (by omega : (0 : Int) < (ks.flat.length : Int) + 1)]; done))
      | (refine nw_no ?_ ?_; focus (simp [s0, s1, s5, s6, s7, e2, c1, (by omega : (0 : Int) < (ks.flat.length : Int) + 1)]; done))
      | refine nw_skip ?_
      | refine nw_exit ?_
      | refine nw_ret ?_)
    simp [F.places] at hys
    simp [hf', ← hys]
    exact ho
  | cons z zs r =>
    obtain ⟨hA, hL'⟩ := hL.head
    have c1 : (p : Int) < j + (ks.flat.length + 1) := by simp [F.flat] at hp; omega
    have hAl := hA.lt
    obtain ⟨v', α2, hp1, hp2, hp3, -⟩ := ho.push el28 hf'.n (x := (p : Int)) (c := [.int .i64 (p : Int)]) rfl (intK_apart _ _) (by omega) 0
    have hf2 : Fr α.n α α2 := hf'.trans hp3
    have e3 : IntKind.i64.wrap ((p : Int) + (zs.flat.length + 1)) = (p : Int) + (zs.flat.length + 1) := w64 (by omega)
    repeat (first
      | (refine nw_seq (nw_region fun K hK => ?_); simp [s0, s1, s5, s6, s7, e2, c1, (by omega : (0 : Int) < (ks.flat.length : Int) + 1), hp1]; refine hK _ _ ?_; clear hK K)
      | (refine nw_region fun K hK => ?_; simp [s0, s1, s5, s6, s7, e2, c1, (by omega : (0 : Int) < (ks.flat.length : Int) + 1), hp1]; refine hK _ _ ?_; clear hK K)
      | refine nw_seq ?_
      | refine nw_block ?_
      | (refine nw_yes ?_ ?_; focus (simp [s0, s1, s5, s6, s7, e2, c1, (by omega : (0 : Int) < (ks.flat.length : Int) + 1), hp1]; done))
      | (refine nw_no ?_ ?_; focus (simp [s0, s1, s5, s6, s7, e2, c1, (by omega : (0 : Int) < (ks.flat.length : Int) + 1), hp1]; done))
      | refine nw_skip ?_
      | refine nw_exit ?_
      | refine nw_ret ?_)
    refine nw_region fun K hK => ?_
    simp [s0, s7]
    refine (size_ok xs p _ v (h.fr hf2) hl).mono fun w β2 hw => ?_
    obtain ⟨rfl, hf3⟩ := hw
    rw [hA.size]
    simp [contK, s7, e3]
    refine hK _ _ ?_
    clear hK K
    refine ⟨r.cnt, by simp [F.cnt], p + (zs.flat.length + 1), r, ys ++ [(p : Int)], v', rfl, hL', by simp [F.flat] at hp; omega, ?_⟩
    simp [s0, s1, s5]
    refine ⟨Fr.up hf2 hf3, hp2.fr hf3, by omega, ?_⟩
    rw [← hys]
    simp [F.places]
end Go.Proofs.Ytggkeldedennfaa
