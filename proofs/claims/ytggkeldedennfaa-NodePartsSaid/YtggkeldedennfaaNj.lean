/- Contracts: horariumlaw3.same. -/
import Derived.Test.YtggkeldedennfaaNi
set_option linter.unusedVariables false
set_option linter.unusedSimpArgs false
namespace Go.Proofs.Ytggkeldedennfaa
open Go Go.RowKit Go.Lay Go.Nod

/-- Kids of both, at any place: the same list. -/
def KidsAre (xs : List Nd) (at_ : Int) (l : List Int) : Prop := (sizeM xs at_ = 0 ∧ l = []) ∨ ∃ (j : Nat) (x : Nd) (ks : F), at_ = j ∧ At xs j x ks ∧ l = (F.places (j + 1) ks).map Int.ofNat
theorem kidsAre (xs : List Nd) (at_ : Int) : ∃ l, KidsAre xs at_ l := by
  by_cases h : sizeM xs at_ = 0
  · exact ⟨[], .inl ⟨h, rfl⟩⟩
  · obtain ⟨j, x, ks, h1, h2⟩ := size_at h
    exact ⟨_, .inr ⟨j, x, ks, h1, h2, rfl⟩⟩
theorem KidsAre.len {xs : List Nd} {at_ : Int} {l : List Int} (h : KidsAre xs at_ l) : l.length ≤ xs.length := by
  rcases h with ⟨_, rfl⟩ | ⟨j, x, ks, _, h2, rfl⟩
  · simp
  · have := places_len ks (j + 1); have := h2.lt; simp; omega
theorem kids_any (xs : List Nd) (at_ : Int) (l : List Int) (hk : KidsAre xs at_ l) (α : AH) (v : Value) (h : Nodes α v xs) (hl : xs.length ≤ 1000000000000) :
    NCalls Try.prog 29 [v, .int .i64 at_] α (fun r α' => Ow α.n 3 (intK .i64) α' r l ∧ Fr α.n α α') := by
  rcases hk with ⟨h0, rfl⟩ | ⟨j, x, ks, rfl, h2, rfl⟩
  · exact kidsNo_ok xs at_ α v h hl h0
  · exact kidsAt_ok xs j x ks α v h hl h2
theorem refKids_any (xs : List Nd) (at_ : Int) (l : List Int) (hk : KidsAre xs at_ l) (α : AH) (v : Value) (h : Nodes α v xs) (hl : xs.length ≤ 1000000000000) :
    NCalls Try.prog 49 [v, .int .i64 at_] α (fun r α' => Ow α.n 3 (intK .i64) α' r l ∧ Fr α.n α α') := by
  rcases hk with ⟨h0, rfl⟩ | ⟨j, x, ks, rfl, h2, rfl⟩
  · exact refKidsNo_ok xs at_ α v h hl h0
  · exact refKidsAt_ok xs j x ks α v h hl h2

set_option maxRecDepth 100000 in
set_option maxHeartbeats 2000000 in
theorem lawSame_ok (xs : List Nd) (at_ : Int) (α : AH) (v : Value) (h : Nodes α v xs) (hl : xs.length ≤ 1000000000) :
    NCalls Try.prog 24 [v, .int .i64 at_] α (fun r α' => r = .bool true ∧ Fr α.n α α') := by
  obtain ⟨w, d, len, hj⟩ := judged xs
  obtain ⟨id, off, hlen, hidx, hld⟩ := h.rd (t := 49) Try.underlying49 sz55
  refine ncalls_of (by kernel_rfl) Try.func24 rfl (by rw [Try.ntmps24]; simp) ?_
  rw [Try.ntmps24, Try.results24]
  have hf : Fr α.n α α := .refl _ _
  repeat (first
    | (refine nw_seq (nw_region fun K hK => ?_); simp []; refine hK _ _ ?_; clear hK K)
    | (refine nw_region fun K hK => ?_; simp []; refine hK _ _ ?_; clear hK K)
    | refine nw_seq ?_
    | refine nw_block ?_
    | (refine nw_yes ?_ ?_; focus (simp []; done))
    | (refine nw_no ?_ ?_; focus (simp []; done))
    | refine nw_skip ?_
    | refine nw_exit ?_
    | refine nw_ret ?_)
  refine nw_region fun K hK => ?_
  simp []
  refine (length_ok xs hj _ v (h.fr hf) hl).mono fun r γ hr => ?_
  obtain ⟨rfl, hg⟩ := hr
  replace hf := Fr.up hf hg
  have hg0 := hg
  clear hg
  simp [contK, ]
  refine hK _ _ ?_
  clear hK K
  repeat (first
    | (refine nw_seq (nw_region fun K hK => ?_); simp []; refine hK _ _ ?_; clear hK K)
    | (refine nw_region fun K hK => ?_; simp []; refine hK _ _ ?_; clear hK K)
    | refine nw_seq ?_
    | refine nw_block ?_
    | (refine nw_yes ?_ ?_; focus (simp []; done))
    | (refine nw_no ?_ ?_; focus (simp []; done))
    | refine nw_skip ?_
    | refine nw_exit ?_
    | refine nw_ret ?_)
  refine nw_region fun K hK => ?_
  simp []
  refine (refLength0_ok xs hj _ v (h.fr hf) hl).mono fun r γ hr => ?_
  obtain ⟨rfl, hg⟩ := hr
  replace hf := Fr.up hf hg
  have hg0 := hg
  clear hg
  simp [contK, ]
  refine hK _ _ ?_
  clear hK K
  repeat (first
    | (refine nw_seq (nw_region fun K hK => ?_); simp []; refine hK _ _ ?_; clear hK K)
    | (refine nw_region fun K hK => ?_; simp []; refine hK _ _ ?_; clear hK K)
    | refine nw_seq ?_
    | refine nw_block ?_
    | (refine nw_yes ?_ ?_; focus (simp []; done))
    | (refine nw_no ?_ ?_; focus (simp []; done))
    | refine nw_skip ?_
    | refine nw_exit ?_
    | refine nw_ret ?_)
  refine nw_region fun K hK => ?_
  simp []
  refine (right_ok xs hj _ v (h.fr hf) hl).mono fun r γ hr => ?_
  obtain ⟨rfl, hg⟩ := hr
  replace hf := Fr.up hf hg
  have hg0 := hg
  clear hg
  simp [contK, ]
  refine (refRight0_ok xs hj _ v (h.fr hf) hl).mono fun r γ hr => ?_
  obtain ⟨rfl, hg⟩ := hr
  replace hf := Fr.up hf hg
  have hg0 := hg
  clear hg
  simp [contK, ]
  refine (depth_ok xs hj _ v (h.fr hf) hl).mono fun r γ hr => ?_
  obtain ⟨rfl, hg⟩ := hr
  replace hf := Fr.up hf hg
  have hg0 := hg
  clear hg
  simp [contK, ]
  refine (refDepth0_ok xs hj _ v (h.fr hf) hl).mono fun r γ hr => ?_
  obtain ⟨rfl, hg⟩ := hr
  replace hf := Fr.up hf hg
  have hg0 := hg
  clear hg
  simp [contK, ]
  refine hK _ _ ?_
  clear hK K
  have e1 : IntKind.i64.wrap ((xs.length : Int) - 1) = (xs.length : Int) - 1 := w64 (by omega)
  rename AH => γ
  have hL : Ints (γ.alloc ⟨[.int .i64 0, .int .i64 at_, .int .i64 ((xs.length : Int) - 1), .int .i64 (-1), .int .i64 (xs.length : Int)], 3, true⟩) (.slice (some ⟨γ.n, 0, none⟩) 5 0) [0, at_, (xs.length : Int) - 1, -1, (xs.length : Int)] := by
    refine .inr ⟨γ.n, 0, 0, _, rfl, by simp [AH.alloc], AH.alloc_get _ _, rfl, by simp [intK], fun i hi => ?_⟩
    have : i = 0 ∨ i = 1 ∨ i = 2 ∨ i = 3 ∨ i = 4 := by simp at hi; omega
    rcases this with rfl | rfl | rfl | rfl | rfl <;> rfl
  repeat (first
    | (refine nw_seq (nw_region fun K hK => ?_); simp [hlen, e1]; refine hK _ _ ?_; clear hK K)
    | (refine nw_region fun K hK => ?_; simp [hlen, e1]; refine hK _ _ ?_; clear hK K)
    | refine nw_seq ?_
    | refine nw_block ?_
    | (refine nw_yes ?_ ?_; focus (simp [hlen, e1]; done))
    | (refine nw_no ?_ ?_; focus (simp [hlen, e1]; done))
    | refine nw_skip ?_
    | refine nw_exit ?_
    | refine nw_ret ?_)
  generalize hδ : γ.alloc _ = δ at *
  have hfδ : Fr α.n α δ := by rw [← hδ]; exact hf.alloc hf.n _
  clear hδ hf
  obtain ⟨qi, qo, -, qidx, qld⟩ := ints_rd hL
  generalize hLL : [0, at_, (xs.length : Int) - 1, -1, (xs.length : Int)] = L at *
  have hL5 : L.length = 5 := by rw [← hLL]; rfl
  refine nw_loop (fun n s α' => ∃ (i : Nat), n = 5 - i ∧ i ≤ 5 ∧ s 0 = v ∧ s 49 = .slice (some ⟨γ.n, 0, none⟩) 5 0 ∧ s 50 = .int .i64 5 ∧ s 51 = .int .i64 (i : Int) ∧ Fr δ.n δ α')
    5 ⟨0, rfl, by omega, by simp, by simp, by simp, by simp, .refl _ _⟩ ?_
  rintro n s α' ⟨i, rfl, hi, s0, s49, s50, s51, hf'⟩
  have hf := Fr.up hfδ hf'
  by_cases c3 : i < 5
  · have c3' : (i : Int) < 5 := by omega
    have qx := qidx .i64 i (by omega)
    obtain ⟨b, hb, hc⟩ := qld _ hf' i (by omega)
    generalize L[i] = k at *
    have e2 : IntKind.i64.wrap ((i : Int) + 1) = (i : Int) + 1 := w64 (by omega)
    obtain ⟨l, hk⟩ := kidsAre xs k
    have hkl := hk.len
    repeat (first
      | (refine nw_seq (nw_region fun K hK => ?_); simp [s49, s50, s51, c3', qx, hb, hc]; refine hK _ _ ?_; clear hK K)
      | (refine nw_region fun K hK => ?_; simp [s49, s50, s51, c3', qx, hb, hc]; refine hK _ _ ?_; clear hK K)
      | refine nw_seq ?_
      | refine nw_block ?_
      | (refine nw_yes ?_ ?_; focus (simp [s49, s50, s51, c3', qx, hb, hc]; done))
      | (refine nw_no ?_ ?_; focus (simp [s49, s50, s51, c3', qx, hb, hc]; done))
      | refine nw_skip ?_
      | refine nw_exit ?_
      | refine nw_ret ?_)
    refine nw_region fun K hK => ?_
    simp [s0]
    have hf0 : Fr α'.n α' α' := .refl _ _
    refine (size_ok xs k _ v (h.fr hf) (by omega)).mono fun r β hr => ?_
    obtain ⟨rfl, hg1⟩ := hr
    simp [contK, s0]
    refine (refSize_ok xs k _ v (h.fr (Fr.up hf hg1)) (by omega)).mono fun r β2 hr => ?_
    obtain ⟨rfl, hg2⟩ := hr
    have hg := Fr.up hg1 hg2
    simp [contK, s0]
    refine (kids_any xs k l hk _ v (h.fr (Fr.up hf hg)) (by omega)).mono fun kv β3 hr => ?_
    obtain ⟨ho3, hg3⟩ := hr
    have hg := Fr.up hg hg3
    simp [contK, s0]
    refine (refKids_any xs k l hk _ v (h.fr (Fr.up hf hg)) (by omega)).mono fun ku β4 hr => ?_
    obtain ⟨ho4, hg4⟩ := hr
    have hg := Fr.up hg hg4
    simp [contK, s0]
    refine (bookSame_ok l l _ kv ku (ho3.sl.fr hg4) ho4.sl (by omega)).mono fun r β5 hr => ?_
    obtain ⟨rfl, rfl⟩ := hr
    simp [contK, s0]
    refine hK _ _ ?_
    clear hK K
    repeat (first
      | (refine nw_seq (nw_region fun K hK => ?_); simp [s51, e2]; refine hK _ _ ?_; clear hK K)
      | (refine nw_region fun K hK => ?_; simp [s51, e2]; refine hK _ _ ?_; clear hK K)
      | refine nw_seq ?_
      | refine nw_block ?_
      | (refine nw_yes ?_ ?_; focus (simp [s51, e2]; done))
      | (refine nw_no ?_ ?_; focus (simp [s51, e2]; done))
      | refine nw_skip ?_
      | refine nw_exit ?_
      | refine nw_ret ?_)
    exact ⟨5 - (i + 1), by omega, i + 1, rfl, by omega, by simp [s0], by simp [s49], by simp [s50], by simp, Fr.up hf' hg⟩
  · have : i = 5 := by omega
    subst this
    repeat (first
      | (refine nw_seq (nw_region fun K hK => ?_); simp [s0, s50, s51]; refine hK _ _ ?_; clear hK K)
      | (refine nw_region fun K hK => ?_; simp [s0, s50, s51]; refine hK _ _ ?_; clear hK K)
      | refine nw_seq ?_
      | refine nw_block ?_
      | (refine nw_yes ?_ ?_; focus (simp [s0, s50, s51]; done))
      | (refine nw_no ?_ ?_; focus (simp [s0, s50, s51]; done))
      | refine nw_skip ?_
      | refine nw_exit ?_
      | refine nw_ret ?_)
    refine nw_region fun K hK => ?_
    simp [s0]
    refine (same_ok xs _ v (h.fr hf) (by omega)).mono fun r β hr => ?_
    obtain ⟨rfl, rfl⟩ := hr
    simp [contK, ]
    refine hK _ _ ?_
    clear hK K
    repeat (first
      | (refine nw_seq (nw_region fun K hK => ?_); simp []; refine hK _ _ ?_; clear hK K)
      | (refine nw_region fun K hK => ?_; simp []; refine hK _ _ ?_; clear hK K)
      | refine nw_seq ?_
      | refine nw_block ?_
      | (refine nw_yes ?_ ?_; focus (simp []; done))
      | (refine nw_no ?_ ?_; focus (simp []; done))
      | refine nw_skip ?_
      | refine nw_exit ?_
      | refine nw_ret ?_)
    simp [hf]
end Go.Proofs.Ytggkeldedennfaa
