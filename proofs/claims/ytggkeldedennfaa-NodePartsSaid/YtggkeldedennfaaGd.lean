/- Contracts: book.Same of bools, law7.matrix, Free, Reach. -/
import Derived.Test.YtggkeldedennfaaGb
import Derived.Test.YtggkeldedennfaaGc
set_option linter.unusedVariables false
set_option linter.unusedSimpArgs false
namespace Go.Proofs.Ytggkeldedennfaa
open Go Go.RowKit Go.Lay Go.Nod

theorem bools_rd {α : AH} {v : Value} {xs : List Bool} (h : Bools α v xs) : ∃ id off, alen Try.prog #[40] v = some (.int .i64 (xs.length : Int)) ∧
    (∀ (k : IntKind) (i : Nat), i < xs.length → aindexAddr Try.prog 40 v (.int k (i : Int)) = some (.pointer (some ⟨id, off + i, none⟩))) ∧
    ∀ β, Fr α.n α β → ∃ b, (0 < xs.length → β.get id = some b) ∧ ∀ (i : Nat) (hi : i < xs.length), b.cells[off + i]? = some (.bool xs[i]) := by
  obtain ⟨id, off, a1, a2, a3⟩ := h.rd1 (t := 40) Try.underlying40 sz4
  refine ⟨id, off, a1, fun k i hi => by have := a2 k i hi; rw [show boolK.sz = 1 from rfl, Nat.mul_one] at this; exact this, fun β hf => ?_⟩
  obtain ⟨b, b1, b2⟩ := a3 β hf
  refine ⟨b, b1, fun i hi => ?_⟩
  obtain ⟨b3, b4⟩ := b2 i hi
  rw [show boolK.sz = 1 from rfl, Nat.mul_one] at b4
  exact take_get b4 (j := 0) (by simp)

set_option maxRecDepth 100000 in
theorem sameB_ok (xs ys : List Bool) (α : AH) (v u : Value) (h : Bools α v xs) (k : Bools α u ys) (hl : xs.length ≤ 1000000000000) :
    NCalls Try.prog 41 [v, u] α (fun r α' => r = .bool (decide (xs = ys)) ∧ α' = α) := by
  obtain ⟨xi, xo, xl, xidx, xld⟩ := bools_rd h
  obtain ⟨yi, yo, yl, yidx, yld⟩ := bools_rd k
  obtain ⟨b, hb, bp⟩ := xld _ (.refl _ _)
  obtain ⟨b', hb', bp'⟩ := yld _ (.refl _ _)
  refine ncw mixd Try.func41 rfl Try.results41 (by kernel_rfl) ?_
  by_cases c1 : xs.length = ys.length
  case neg => simp [xl, yl, c1]; intro h; exact c1 (by rw [h])
  simp [xl, yl, c1]
  refine wlp [4, 5] 11 25 (by kernel_rfl) xs.length (fun k t α' => ∃ i, k = xs.length - i ∧ i ≤ xs.length ∧ t 5 = .int .i64 i ∧ α' = α ∧ xs.take i = ys.take i) ⟨0, by omega, by omega, by simp, rfl, by simp⟩ ?_
  rintro J hJ k t α1 ⟨i, rfl, hi, t5, rfl, ht⟩
  by_cases ci : i < xs.length
  · have ci' : i < ys.length := by omega
    have e1 : IntKind.i64.wrap ((i : Int) + 1) = (i : Int) + 1 := w64 (by omega)
    simp [t5, xl, ci, ci', c1]
    refine wdraw (tks [0, 0, 0, 0, 0, 0, 0, 0, 0] (.done)) (by kernel_rfl) ?_
    by_cases he : xs[i] = ys[i]
    · simp [t5, xidx .i64 i ci, yidx .i64 i ci', hb (by omega), hb' (by omega), bp i ci, bp' i ci', he, e1]
      exact agn_mk (xs.length - (i + 1)) (by omega) (hJ _ _ _ ⟨i + 1, rfl, by omega, by simp, rfl, tk_next ht ci ci' he⟩)
    · simp [t5, xidx .i64 i ci, yidx .i64 i ci', hb (by omega), hb' (by omega), bp i ci, bp' i ci', he]
      intro h; subst h; exact he rfl
  · have : i = xs.length := by omega
    have ci' : ¬ i < ys.length := by omega
    simp [t5, xl, ci, ci', c1, tk_all ht this c1]

set_option maxRecDepth 100000 in
theorem matrix_ok (xs ys : List (List Bool)) (α : AH) (v u : Value) (h : Mats α v xs) (k : Mats α u ys) (hl : xs.length ≤ 1000000000000) (hr : ∀ x ∈ xs, x.length ≤ 1000000000000) :
    NCalls Try.prog 12 [v, u] α (fun r α' => r = .bool (decide (xs = ys)) ∧ α' = α) := by
  obtain ⟨xi, xo, xl, xidx, xld⟩ := mats_rd h
  obtain ⟨yi, yo, yl, yidx, yld⟩ := mats_rd k
  obtain ⟨b, hb, bp⟩ := xld _ (.refl _ _)
  obtain ⟨b', hb', bp'⟩ := yld _ (.refl _ _)
  refine ncw mixd Try.func12 rfl Try.results12 (by kernel_rfl) ?_
  by_cases c1 : xs.length = ys.length
  case neg => simp [xl, yl, c1]; intro h; exact c1 (by rw [h])
  simp [xl, yl, c1]
  refine wlp [4, 5] 13 26 (by kernel_rfl) xs.length (fun k t α' => ∃ i, k = xs.length - i ∧ i ≤ xs.length ∧ t 13 = .int .i64 i ∧ α' = α ∧ xs.take i = ys.take i) ⟨0, by omega, by omega, by simp, rfl, by simp⟩ ?_
  rintro J hJ k t α1 ⟨i, rfl, hi, t13, rfl, ht⟩
  by_cases ci : i < xs.length
  · have ci' : i < ys.length := by omega
    have ci2 : (i : Int) < ys.length := by omega
    obtain ⟨p, p1, p2⟩ := bp i ci
    obtain ⟨q, q1, q2⟩ := bp' i ci'
    have e1 : IntKind.i64.wrap ((i : Int) + 1) = (i : Int) + 1 := w64 (by omega)
    simp [t13, ci, ci']
    refine wdraw (tks [0, 0, 0, 0, 0, 0, 0, 0] (.pick (.cons 0 (.take 0 (.done)) .nil))) (by kernel_rfl) ?_
    simp [t13, xidx .i64 i ci, yidx .i64 i ci', hb (by omega), hb' (by omega), p1, q1]
    refine (sameB_ok _ _ _ _ _ p2 q2 (hr _ (List.getElem_mem ci))).mono fun r β hr => ?_
    obtain ⟨rfl, rfl⟩ := hr
    by_cases he : xs[i] = ys[i]
    · simp [he, t13, e1]
      exact agn_mk (xs.length - (i + 1)) (by omega) (hJ _ _ _ ⟨i + 1, rfl, by omega, by simp, rfl, tk_next ht ci ci' he⟩)
    · simp [he]
      intro h; subst h; exact he rfl
  · have : i = xs.length := by omega
    have ci' : ¬ i < ys.length := by omega
    simp [t13, ci, ci', tk_all ht this c1]

def frM (c : Cf) (a b : Int) : Bool := decide (-1 ≤ a ∧ -1 ≤ b ∧ a < c.parts.length ∧ b < c.parts.length) && (decide (a = -1) || decide (b = -1) || !(depM c a.toNat b.toNat))
set_option maxRecDepth 100000 in
set_option maxHeartbeats 1000000 in
theorem free_ok (vp vc vt : Value) (c : Cf) (a b : Int) (α : AH) (h : IsCfg α (.agg #[vp, vc, vt]) c) (hl : c.parts.length ≤ 1000) (hlc : c.chans.length ≤ 1000000000) :
    NCalls Try.prog 19 [.agg #[vp, vc, vt], .int .i64 a, .int .i64 b] α (fun v α' => v = .bool (frM c a b) ∧ Fr α.n α α') := by
  have h0 := h
  obtain ⟨_, _, _, he, h1, h2, h3⟩ := h
  cases he
  obtain ⟨pid, poff, pl, -⟩ := part_rd h1
  refine ncw mixd Try.func19 rfl Try.results19 (by kernel_rfl) ?_
  by_cases c1 : a < -1
  · simp [h1.isCell, h2.isCell, h3.isCell, pl, c1, frM, show ¬ -1 ≤ a by omega]
  by_cases c2 : b < -1
  · simp [h1.isCell, h2.isCell, h3.isCell, pl, c1, c2, frM, show ¬ -1 ≤ b by omega]
  by_cases c3 : c.parts.length ≤ a
  · simp [h1.isCell, h2.isCell, h3.isCell, pl, c1, c2, c3, frM, show ¬ a < c.parts.length by omega]
  by_cases c4 : c.parts.length ≤ b
  · simp [h1.isCell, h2.isCell, h3.isCell, pl, c1, c2, c3, c4, frM, show ¬ b < (c.parts.length : Int) by omega]
  have hr : -1 ≤ a ∧ -1 ≤ b ∧ a < c.parts.length ∧ b < c.parts.length := by omega
  by_cases d1 : a = -1
  · simp [h1.isCell, h2.isCell, h3.isCell, pl, c1, c2, c3, c4, d1, frM, hr, show ¬ (c.parts.length : Int) ≤ -1 by omega, show (-1 : Int) < c.parts.length by omega]
  by_cases d2 : b = -1
  · simp [h1.isCell, h2.isCell, h3.isCell, pl, c1, c2, c3, c4, d1, d2, frM, hr, show ¬ (c.parts.length : Int) ≤ -1 by omega, show (-1 : Int) < c.parts.length by omega]
  simp [h1.isCell, h2.isCell, h3.isCell, pl, c1, c2, c3, c4, d1, d2]
  refine (depends_ok vp vc vt c _ (h0.fr (Fr.alloc0 _ _)) hl hlc).mono fun m β hm => ?_
  obtain ⟨hM, hf⟩ := hm
  obtain ⟨x, rfl⟩ := Int.eq_ofNat_of_zero_le (show 0 ≤ a by omega)
  obtain ⟨y, rfl⟩ := Int.eq_ofNat_of_zero_le (show 0 ≤ b by omega)
  have hx : x < c.parts.length := by omega
  have hy : y < c.parts.length := by omega
  obtain ⟨o, cc, ro, id, ci', rr, rfl, q2, q3, q4, q5, q6, -⟩ := hM.at hx hy
  simp [hx, hy, q2, q3, q4, q6, frM, (Fr.alloc0 _ _).up hf]

set_option maxRecDepth 100000 in
set_option maxHeartbeats 1000000 in
theorem rfree_ok (vp vc vt : Value) (c : Cf) (a b : Int) (α : AH) (h : IsCfg α (.agg #[vp, vc, vt]) c) (hl : c.parts.length ≤ 1000) (hlc : c.chans.length ≤ 1000000000) :
    NCalls Try.prog 38 [.agg #[vp, vc, vt], .int .i64 a, .int .i64 b] α (fun v α' => v = .bool (frM c a b) ∧ Fr α.n α α') := by
  have h0 := h
  obtain ⟨_, _, _, he, h1, h2, h3⟩ := h
  cases he
  have hF1 := Fr.alloc0 α ⟨[vp, vc, vt], 26, true⟩
  have hg1 := AH.alloc_get α ⟨[vp, vc, vt], 26, true⟩
  have hn1 := AH.alloc_n α ⟨[vp, vc, vt], 26, true⟩
  have rb : ∀ γ, Fr (α.alloc ⟨[vp, vc, vt], 26, true⟩).n (α.alloc ⟨[vp, vc, vt], 26, true⟩) γ → γ.get α.n = some ⟨[vp, vc, vt], 26, true⟩ := fun γ hγ => by rw [hγ.get _ (by omega)]; exact hg1
  refine ncw mixd Try.func38 rfl Try.results38 (by kernel_rfl) ?_
  -- what follows behind both tests
  have fin : ∀ (s : AS) (γ : AH), Fr (α.alloc ⟨[vp, vc, vt], 26, true⟩).n (α.alloc ⟨[vp, vc, vt], 26, true⟩) γ → -1 ≤ a ∧ -1 ≤ b ∧ a < c.parts.length ∧ b < c.parts.length → a ≠ -1 → b ≠ -1 →
      NCalls Try.prog 36 [.agg #[vp, vc, vt]] γ (fun m β => ∃ x y : Nat, a = (x : Int) ∧ b = (y : Int) ∧ x < c.parts.length ∧ y < c.parts.length ∧ MX γ.n β m c.parts.length c.parts.length (depM c) ∧ Fr γ.n γ β) := fun s γ hγ hr d1 d2 => by
    refine (rdepends_ok vp vc vt c _ ((h0.fr hF1).fr hγ) hl hlc).mono fun m β hm => ?_
    obtain ⟨x, hx⟩ := Int.eq_ofNat_of_zero_le (show 0 ≤ a by omega)
    obtain ⟨y, hy⟩ := Int.eq_ofNat_of_zero_le (show 0 ≤ b by omega)
    exact ⟨x, y, hx, hy, by omega, by omega, hm⟩
  by_cases d1 : a = -1
  · by_cases d2 : b = -1
    · simp [h1.isCell, h2.isCell, h3.isCell, d1, d2, frM]; omega
    simp [h1.isCell, h2.isCell, h3.isCell, d1, d2]
    refine (in_ok _ vp vc vt c _ (h0.fr hF1)).mono fun r γ hr => ?_
    obtain ⟨rfl, hg⟩ := hr
    by_cases i2 : 0 ≤ b ∧ b < c.parts.length
    · simp [d1, d2, i2, frM, hF1.up hg]; omega
    · simp [d1, d2, i2, frM, hF1.up hg]; omega
  simp [h1.isCell, h2.isCell, h3.isCell, d1]
  refine (in_ok _ vp vc vt c _ (h0.fr hF1)).mono fun r γ hr => ?_
  obtain ⟨rfl, hg⟩ := hr
  by_cases i1 : 0 ≤ a ∧ a < c.parts.length
  case neg => simp [d1, i1, frM, hF1.up hg]; omega
  by_cases d2 : b = -1
  · simp [d1, d2, i1, frM, hF1.up hg]; omega
  simp [i1, d1, d2, rb _ hg]
  refine (in_ok _ vp vc vt c _ ((h0.fr hF1).fr hg)).mono fun r δ hr => ?_
  obtain ⟨rfl, hd⟩ := hr
  by_cases i2 : 0 ≤ b ∧ b < c.parts.length
  case neg => simp [d1, d2, i1, i2, frM, hF1.up (hg.up hd)]; omega
  simp [d1, d2, i1, i2, rb _ (hg.up hd)]
  refine (fin (fun _ => undef) _ (hg.up hd) (by omega) d1 d2).mono fun m β hm => ?_
  obtain ⟨x, y, rfl, rfl, hx, hy, hM, hf⟩ := hm
  obtain ⟨o, cc, ro, id, ci', rr, rfl, q2, q3, q4, q5, q6, -⟩ := hM.at hx hy
  simp [hx, hy, q2, q3, q4, q6, frM, hF1.up ((hg.up hd).up hf)]
end Go.Proofs.Ytggkeldedennfaa
