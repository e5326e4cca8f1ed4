/- Contracts: slices.Clip of ints, Reach of graph and of the reference. -/
import Derived.Test.YtggkeldedennfaaGd
set_option linter.unusedVariables false
set_option linter.unusedSimpArgs false
namespace Go.Proofs.Ytggkeldedennfaa
open Go Go.RowKit Go.Lay Go.Nod

abbrev OwI (N : Nat) (α : AH) (v : Value) (xs : List Int) : Prop := Ow N 3 (intK .i64) α v xs
/-! ### functions that are alike where it matters -/
def Eon (n : Nat) (f g : Nat → Nat → Bool) : Prop := ∀ i j, i < n → j < n → f i j = g i j
theorem Eon.fold {n : Nat} {h k : (Nat → Nat → Bool) → Nat → (Nat → Nat → Bool)} (hs : ∀ f g i, i < n → Eon n f g → Eon n (h f i) (k g i)) : ∀ (m : Nat), m ≤ n → ∀ f g, Eon n f g → Eon n ((List.range m).foldl h f) ((List.range m).foldl k g)
  | 0, _, f, g, e => e
  | m + 1, hm, f, g, e => by rw [fold_succ, fold_succ]; exact hs _ _ m (by omega) (Eon.fold hs m (by omega) f g e)
theorem Eon.clM {n : Nat} {f g : Nat → Nat → Bool} (h : Eon n f g) : Eon n (clM n f) (clM n g) :=
  Eon.fold (fun f g b hb e => Eon.fold (fun f g a ha e => Eon.fold (fun f g c hc e i j hi hj => by simp only [cl1, upd2]; split <;> simp [e _ _ ha hc, e _ _ ha hb, e _ _ hb hc, e _ _ hi hj]) n (Nat.le_refl _) f g e) n (Nat.le_refl _) f g e) n (Nat.le_refl _) f g h
theorem rmat_len {r n : Nat} {f : Nat → Nat → Bool} : (rmat r n f).length = r := by simp [rmat]
theorem rmat_all {r n : Nat} {f : Nat → Nat → Bool} : ∀ x ∈ rmat r n f, x.length = n := fun x hx => by simp [rmat] at hx; obtain ⟨a, _, rfl⟩ := hx; simp
theorem matF_rmat {r n : Nat} {f : Nat → Nat → Bool} {i j : Nat} (hi : i < r) (hj : j < n) : matF (rmat r n f) i j = f i j := by simp [matF, rmat, hi, hj]
theorem clM_rmat (n : Nat) (f : Nat → Nat → Bool) : Eon n (clM n (matF (rmat n n f))) (clM n f) := Eon.clM fun _ _ hi hj => matF_rmat hi hj
/-- Closure of a square of one's own. -/
theorem closureM_ok {N : Nat} {n : Nat} {f : Nat → Nat → Bool} {α : AH} {v : Value} (h : MX N α v n n f) (hl : n ≤ 1000) : NCalls Try.prog 13 [v] α (fun r α' => MX α.n α' r n n (clM n f) ∧ Fr α.n α α') := by
  refine (closure_ok _ α v h.sl (by rw [rmat_len]; exact hl)).mono fun r β ⟨h1, _, h3⟩ => ?_
  have := h1 fun x hx => by rw [rmat_len]; exact rmat_all x hx
  rw [rmat_len] at this
  exact ⟨this.congr fun a b ha hb => clM_rmat n f a b ha hb, h3⟩
theorem rclosureM_ok {N : Nat} {n : Nat} {f : Nat → Nat → Bool} {α : AH} {v : Value} (h : MX N α v n n f) (hl : n ≤ 1000) : NCalls Try.prog 16 [v] α (fun r α' => MX α.n α' r n n (clM n f) ∧ Fr α.n α α') := by
  refine (rclosure_ok _ α v h.sl (by rw [rmat_len]; exact hl)).mono fun r β ⟨h1, _, h3⟩ => ?_
  have := h1 fun x hx => by rw [rmat_len]; exact rmat_all x hx
  rw [rmat_len] at this
  exact ⟨this.congr fun a b ha hb => clM_rmat n f a b ha hb, h3⟩

set_option maxRecDepth 100000 in
theorem clip_ok {N : Nat} (xs : List Int) (α : AH) (v : Value) (h : OwI N α v xs) : NCalls Try.prog 45 [v] α (fun r α' => OwI N α r xs ∧ α' = α) := by
  rcases h with ⟨rfl, rfl⟩ | ⟨id, c, b, rfl, h2, h3, h4, h5, h6, h7, h8⟩
  · refine ncw mixd Try.func45 rfl Try.results45 (by kernel_rfl) ?_
    simp [aslice]
    exact .nil
  · refine ncw mixd Try.func45 rfl Try.results45 (by kernel_rfl) ?_
    simp [aslice, h4, h5]
    exact .inr ⟨id, 0, b, rfl, h2, h3, h4, h5, h6, h7, h8⟩

def rcL (c : Cf) (p : Int) (m : Nat) : List Int := ((List.range m).filter fun a => clM c.parts.length (swM c) a p.toNat).map Int.ofNat
def rcM (c : Cf) (p : Int) : List Int := if 0 ≤ p ∧ p < c.parts.length then rcL c p c.parts.length else []
theorem rcL_len (c : Cf) (p : Int) (m : Nat) : (rcL c p m).length ≤ m := by
  have := List.length_filter_le (fun a => clM c.parts.length (swM c) a p.toNat) (List.range m)
  simp only [List.length_range] at this
  simpa [rcL] using this
theorem rcL_succ (c : Cf) (p : Int) (m : Nat) : rcL c p (m + 1) = if clM c.parts.length (swM c) m p.toNat = true then rcL c p m ++ [(m : Int)] else rcL c p m := by
  simp only [rcL, List.range_succ, List.filter_append, List.map_append]
  cases h : clM c.parts.length (swM c) m p.toNat <;> simp [h]

set_option maxRecDepth 100000 in
set_option maxHeartbeats 1000000 in
theorem reach_ok (vp vc vt : Value) (c : Cf) (p : Int) (α : AH) (h : IsCfg α (.agg #[vp, vc, vt]) c) (hl : c.parts.length ≤ 1000) (hlc : c.chans.length ≤ 1000000000) :
    NCalls Try.prog 21 [.agg #[vp, vc, vt], .int .i64 p] α (fun v α' => OwI α.n α' v (rcM c p) ∧ Fr α.n α α') := by
  have h0 := h
  obtain ⟨_, _, _, he, h1, h2, h3⟩ := h
  cases he
  have hF1 := Fr.alloc0 α ⟨[vp, vc, vt], 26, true⟩
  have hg1 := AH.alloc_get α ⟨[vp, vc, vt], 26, true⟩
  have hn1 := AH.alloc_n α ⟨[vp, vc, vt], 26, true⟩
  refine ncw mixd Try.func21 rfl Try.results21 (by kernel_rfl) ?_
  simp [h1.isCell, h2.isCell, h3.isCell]
  generalize α.alloc _ = α1 at *
  have rb : ∀ γ, Fr α1.n α1 γ → γ.get α.n = some ⟨[vp, vc, vt], 26, true⟩ := fun γ hγ => by rw [hγ.get _ (by omega)]; exact hg1
  refine (is_ok _ vp vc vt c _ (h0.fr hF1)).mono fun r γ hr => ?_
  obtain ⟨rfl, hg⟩ := hr
  by_cases i1 : 0 ≤ p ∧ p < c.parts.length
  case neg =>
    simp [i1, rcM, hF1.up hg]
    exact .nil
  simp [i1, rb _ hg]
  refine (sways_ok vp vc vt c _ ((h0.fr hF1).fr hg) hl hlc).mono fun m β hm => ?_
  obtain ⟨hM, hf⟩ := hm
  simp
  refine (closureM_ok hM hl).mono fun r δ hr => ?_
  obtain ⟨hM, hd⟩ := hr
  obtain ⟨ma, mc, rfl⟩ := hM.isSl
  obtain ⟨q, rfl⟩ := Int.eq_ofNat_of_zero_le i1.1
  have hq : q < c.parts.length := by omega
  have hff := hF1.up ((hg.up hf).up hd)
  have hln : β.n ≤ δ.n := hd.n
  simp
  refine wlp [5, 6, 7] 16 29 (by kernel_rfl) c.parts.length (fun k t α' => ∃ i, k = c.parts.length - i ∧ i ≤ c.parts.length ∧ t 16 = .int .i64 i ∧ OwI δ.n α' (t 5) (rcL c q i) ∧ Fr δ.n δ α')
    ⟨0, by omega, by omega, by simp, by simp [rcL]; exact .nil, .refl _ _⟩ ?_
  rintro J hJ k t ε ⟨i, rfl, hi, t16, ho, hf'⟩
  by_cases ci : i < c.parts.length
  · obtain ⟨o, cc, ro, id, ci', rr, q1, q2, q3, q4, q5, q6, -⟩ := (hM.fr hf').at ci hq
    injection q1 with q1
    subst q1
    have := rcL_len c q i
    obtain ⟨v', α2, p1, p2, p3, -⟩ := ho.push el28 hf'.n (x := (i : Int)) (c := [.int .i64 (i : Int)]) rfl (intK_apart _ _) (by omega) 0
    have e1 : IntKind.i64.wrap ((i : Int) + 1) = (i : Int) + 1 := w64 (by omega)
    by_cases cm : clM c.parts.length (swM c) i q = true
    · simp [t16, ci, hq, q2, q3, q4, q6, cm, p1, e1]
      exact agn_mk (c.parts.length - (i + 1)) (by omega) (hJ _ _ _ ⟨i + 1, rfl, by omega, by simp, by rw [rcL_succ, if_pos (by simpa using cm)]; exact p2, hf'.trans p3⟩)
    · simp [t16, ci, hq, q2, q3, q4, q6, cm, e1]
      exact agn_mk (c.parts.length - (i + 1)) (by omega) (hJ _ _ _ ⟨i + 1, rfl, by omega, by simp, by rw [rcL_succ, if_neg (by simpa using cm)]; exact ho, hf'⟩)
  · have : i = c.parts.length := by omega
    subst this
    simp [t16]
    refine (clip_ok _ _ _ ho).mono fun r ζ hr => ?_
    obtain ⟨ho, rfl⟩ := hr
    simp
    refine ⟨?_, hff.up hf'⟩
    rw [rcM, if_pos i1]
    exact ho.mono hff.n

set_option maxRecDepth 100000 in
set_option maxHeartbeats 1000000 in
theorem rreach_ok (vp vc vt : Value) (c : Cf) (p : Int) (α : AH) (h : IsCfg α (.agg #[vp, vc, vt]) c) (hl : c.parts.length ≤ 1000) (hlc : c.chans.length ≤ 1000000000) :
    NCalls Try.prog 40 [.agg #[vp, vc, vt], .int .i64 p] α (fun v α' => OwI α.n α' v (rcM c p) ∧ Fr α.n α α') := by
  have h0 := h
  obtain ⟨_, _, _, he, h1, h2, h3⟩ := h
  cases he
  have hF1 := Fr.alloc0 α ⟨[vp, vc, vt], 26, true⟩
  have hg1 := AH.alloc_get α ⟨[vp, vc, vt], 26, true⟩
  have hn1 := AH.alloc_n α ⟨[vp, vc, vt], 26, true⟩
  refine ncw mixd Try.func40 rfl Try.results40 (by kernel_rfl) ?_
  simp [h1.isCell, h2.isCell, h3.isCell]
  generalize α.alloc _ = α1 at *
  have rb : ∀ γ, Fr α1.n α1 γ → γ.get α.n = some ⟨[vp, vc, vt], 26, true⟩ := fun γ hγ => by rw [hγ.get _ (by omega)]; exact hg1
  refine (rsways_ok vp vc vt c _ (h0.fr hF1) hl hlc).mono fun m β hm => ?_
  obtain ⟨hM, hf⟩ := hm
  simp
  refine (rclosureM_ok hM hl).mono fun r δ hr => ?_
  obtain ⟨hM, hd⟩ := hr
  obtain ⟨ma, mc, rfl⟩ := hM.isSl
  have hff := hF1.up (hf.up hd)
  have hln : β.n ≤ δ.n := hd.n
  simp
  refine wlp [5, 7] 11 32 (by kernel_rfl) c.parts.length (fun k t α' => ∃ i, k = c.parts.length - i ∧ i ≤ c.parts.length ∧ (0 < i → 0 ≤ p ∧ p < c.parts.length) ∧ t 7 = .int .i64 i ∧ OwI δ.n α' (t 5) (rcL c p i) ∧ Fr δ.n δ α')
    ⟨0, by omega, by omega, by omega, by simp, by simp [rcL]; exact .nil, .refl _ _⟩ ?_
  rintro J hJ k t ε ⟨i, rfl, hi, hin, t7, ho, hf'⟩
  have h1n : α1.n ≤ δ.n := Nat.le_trans hf.n hd.n
  have hfe := (hf.up hd).up hf'
  by_cases ci : i < c.parts.length
  · simp [t7, ci, rb _ hfe]
    refine (in_ok _ vp vc vt c _ ((h0.fr hF1).fr hfe)).mono fun r γ hr => ?_
    obtain ⟨rfl, hg⟩ := hr
    have hfg := hf'.trans (hg.mono hf'.n)
    have ho' := ho.fr hg
    by_cases i1 : 0 ≤ p ∧ p < c.parts.length
    case neg =>
      have : i = 0 := by omega
      subst this
      simp [i1, t7, rcM, hff.up hfg]
      simpa [rcL] using ho'.mono hff.n
    obtain ⟨q, rfl⟩ := Int.eq_ofNat_of_zero_le i1.1
    have hq : q < c.parts.length := by omega
    obtain ⟨o, cc, ro, id, ci', rr, q1, q2, q3, q4, q5, q6, -⟩ := (hM.fr hfg).at ci hq
    injection q1 with q1
    subst q1
    have := rcL_len c q i
    obtain ⟨v', α2, p1, p2, p3, -⟩ := ho'.push el28 hfg.n (x := (i : Int)) (c := [.int .i64 (i : Int)]) rfl (intK_apart _ _) (by omega) 0
    have e1 : IntKind.i64.wrap ((i : Int) + 1) = (i : Int) + 1 := w64 (by omega)
    by_cases cm : clM c.parts.length (swM c) i q = true
    · simp [t7, ci, hq, q2, q3, q4, q6, cm, p1, e1]
      exact agn_mk (c.parts.length - (i + 1)) (by omega) (hJ _ _ _ ⟨i + 1, rfl, by omega, fun _ => i1, by simp, by rw [rcL_succ, if_pos (by simpa using cm)]; exact p2, hfg.trans p3⟩)
    · simp [t7, ci, hq, q2, q3, q4, q6, cm, e1]
      exact agn_mk (c.parts.length - (i + 1)) (by omega) (hJ _ _ _ ⟨i + 1, rfl, by omega, fun _ => i1, by simp, by rw [rcL_succ, if_neg (by simpa using cm)]; exact ho', hfg⟩)
  · have : i = c.parts.length := by omega
    subst this
    simp [t7, hff.up hf']
    by_cases i1 : 0 ≤ p ∧ p < c.parts.length
    · rw [rcM, if_pos i1]; exact ho.mono hff.n
    · have h0 : c.parts.length = 0 := by omega
      rw [rcM, if_neg i1]
      rw [h0] at ho
      simpa [rcL] using ho.mono hff.n
end Go.Proofs.Ytggkeldedennfaa
