/- Contracts: graph.is, square, Depends and their like in the reference. -/
import Derived.Test.YtggkeldedennfaaDa
set_option linter.unusedVariables false
set_option linter.unusedSimpArgs false
namespace Go.Proofs.Ytggkeldedennfaa
open Go Go.RowKit Go.Lay Go.Nod

theorem mkB (n : Nat) (hn : n ≤ 1000000000) (α : AH) : amake Try.prog 40 (.int .i64 n) (.int .i64 n) α = some (.slice (some ⟨α.n, 0, none⟩) n 0, α.alloc ⟨List.replicate n (.bool false), 4, true⟩) := by
  simp [amake]
  omega

set_option maxRecDepth 100000 in
theorem is_ok (p : Int) (vp vc vt : Value) (c : Cf) (α : AH) (h : IsCfg α (.agg #[vp, vc, vt]) c) :
    NCalls Try.prog 44 [.agg #[vp, vc, vt], .int .i64 p] α (fun v α' => v = .bool (decide (0 ≤ p ∧ p < c.parts.length)) ∧ Fr α.n α α') := by
  obtain ⟨_, _, _, he, h1, h2, h3⟩ := h
  cases he
  obtain ⟨_, _, hl, _⟩ := h1.rd (t := 22) Try.underlying22 sz68
  refine ncw mixd Try.func44 rfl Try.results44 (by kernel_rfl) ?_
  simp +contextual [h1.isCell, h2.isCell, h3.isCell, hl]
set_option maxRecDepth 100000 in
theorem in_ok (p : Int) (vp vc vt : Value) (c : Cf) (α : AH) (h : IsCfg α (.agg #[vp, vc, vt]) c) :
    NCalls Try.prog 60 [.agg #[vp, vc, vt], .int .i64 p] α (fun v α' => v = .bool (decide (0 ≤ p ∧ p < c.parts.length)) ∧ Fr α.n α α') := by
  obtain ⟨_, _, _, he, h1, h2, h3⟩ := h
  cases he
  obtain ⟨_, _, hl, _⟩ := h1.rd (t := 22) Try.underlying22 sz68
  refine ncw mixd Try.func60 rfl Try.results60 (by kernel_rfl) ?_
  simp +contextual [h1.isCell, h2.isCell, h3.isCell, hl]

set_option maxRecDepth 100000 in
theorem square_ok (n : Nat) (hn : n ≤ 1000) (α : AH) :
    NCalls Try.prog 43 [.int .i64 n] α (fun v α' => MX α.n α' v n n (fun _ _ => false) ∧ Fr α.n α α') := by
  refine ncw mixd Try.func43 rfl Try.results43 (by kernel_rfl) ?_
  simp +contextual
  refine wlp [3] 5 12 (by kernel_rfl) n (fun k t α' => ∃ i, k = n - i ∧ i ≤ n ∧ t 5 = .int .i64 i ∧ MX α.n α' (t 3) i n (fun _ _ => false) ∧ Fr α.n α α')
    ⟨0, by omega, by omega, by simp, ⟨[], fun _ => 0, fun _ => 0, .nil, rfl, fun i hi => by omega, fun i j hi => by omega⟩, .refl _ _⟩ ?_
  rintro J hJ k t α' ⟨i, rfl, hi, t5, hM, hf⟩
  by_cases c : i < n
  · obtain ⟨vs, ids, cs, h0⟩ := hM
    obtain ⟨v', α2, p1, p2, p3⟩ := (h0.fr (Fr.alloc0 α' ⟨List.replicate n (.bool false), 4, true⟩)).push (i := α'.n) (ci := 0) (rb := List.replicate n (.bool false)) (g := fun _ => false) hf.n (by simp) (AH.alloc_get _ _) (by simp)
      (fun j hj => by simp [hj]) (by omega) 0 (fun k hk => by have := (h0.row k hk).2.2.1; omega)
    rw [AH.alloc_n] at p1
    have e1 : IntKind.i64.wrap ((i : Int) + 1) = (i : Int) + 1 := w64 (by omega)
    simp +contextual [t5, c, mkB n (by omega), p1, e1]
    refine agn_mk (n - (i + 1)) (by omega) (hJ _ _ _ ⟨i + 1, rfl, by omega, by simp, ?_, hf.trans (((Fr.refl _ _).alloc hf.n _).trans p3)⟩)
    simp
    exact p2.congr (fun a b _ _ => by simp)
  · have : i = n := by omega
    subst this
    simp +contextual [t5, hM, hf]

def inr (n : Nat) (x : Cn) : Prop := (0 ≤ x.f ∧ x.f < n) ∧ (0 ≤ x.t ∧ x.t < n)
instance (n : Nat) (x : Cn) : Decidable (inr n x) := by unfold inr; infer_instance
def dep0 (ps : List Pt) (a b : Nat) : Bool := decide (a = b) || ((ps[a]?.map (·.sched)).getD false && (ps[b]?.map (·.sched)).getD false)
def depS (n : Nat) (f : Nat → Nat → Bool) (x : Cn) : Nat → Nat → Bool := if inr n x then upd2 (upd2 f x.f.toNat x.t.toNat true) x.t.toNat x.f.toNat true else f
def depM (c : Cf) : Nat → Nat → Bool := c.chans.foldl (depS c.parts.length) (dep0 c.parts)

def sw0 (ps : List Pt) (a b : Nat) : Bool := decide (a = b) || ((ps[a]?.map (·.sched)).getD false || (ps[a]?.map (·.stop)).getD false)
def swS (n : Nat) (f : Nat → Nat → Bool) (x : Cn) : Nat → Nat → Bool :=
  if inr n x then upd2 (upd2 f x.f.toNat x.t.toNat true) x.t.toNat x.f.toNat (upd2 f x.f.toNat x.t.toNat true x.t.toNat x.f.toNat || x.q) else f
def swM (c : Cf) : Nat → Nat → Bool := c.chans.foldl (swS c.parts.length) (sw0 c.parts)
/-- rows that are not there yet stand as nil slices -/
def nilV : Value := .slice none 0 0
theorem mkBB (n : Nat) (hn : n ≤ 1000000000) (α : AH) : amake Try.prog 38 (.int .i64 n) (.int .i64 n) α = some (.slice (some ⟨α.n, 0, none⟩) n 0, α.alloc ⟨List.replicate n nilV, 40, true⟩) := by
  simp [amake, nilV]
  omega

set_option maxRecDepth 100000 in
theorem rsquare_ok (n : Nat) (hn : n ≤ 1000) (α : AH) :
    NCalls Try.prog 59 [.int .i64 n] α (fun v α' => MX α.n α' v n n (fun a b => decide (a = b)) ∧ Fr α.n α α') := by
  refine ncw mixd Try.func59 rfl Try.results59 (by kernel_rfl) ?_
  simp +contextual [mkBB n (by omega)]
  have hF1 := Fr.alloc0 α ⟨List.replicate n nilV, 40, true⟩
  have hg1 := AH.alloc_get α ⟨List.replicate n nilV, 40, true⟩
  have hn1 := AH.alloc_n α ⟨List.replicate n nilV, 40, true⟩
  generalize α.alloc _ = α1 at *
  refine wlp [4] 9 23 (by kernel_rfl) n (fun k t α' => ∃ i ro ids, k = n - i ∧ i ≤ n ∧ t 9 = .int .i64 i ∧ Fr α.n α α' ∧ α.n < α'.n ∧ α'.get α.n = some ⟨ro, 40, true⟩ ∧ ro.length = n ∧
      (∀ a, a < i → ro[a]? = some (.slice (some ⟨ids a, 0, none⟩) n 0) ∧ α.n < ids a ∧ ids a < α'.n ∧ ∃ b, α'.get (ids a) = some ⟨b, 4, true⟩ ∧ n ≤ b.length ∧ ∀ j, j < n → b[j]? = some (.bool (decide (a = j)))) ∧
      ∀ a b, a < i → b < i → ids a = ids b → a = b)
    ⟨0, _, fun _ => 0, by omega, by omega, by simp, hF1, by omega, hg1, by simp, fun a ha => by omega, fun a b ha => by omega⟩ ?_
  rintro J hJ k t α2 ⟨i, ro, ids, rfl, hi, t9, hf, hn2, hg, hro, hrow, hinj⟩
  by_cases ci : i < n
  · have e1 : IntKind.i64.wrap ((i : Int) + 1) = (i : Int) + 1 := w64 (by omega)
    have hne : α.n ≠ α2.n := by omega
    have hne' : α2.n ≠ α.n := by omega
    simp +contextual [t9, ci, mkB n (by omega), AH.alloc_get_ne, AH.set_get_ne, hne, hne', hg, hro, e1, show i + 1 ≤ n by omega]
    refine agn_mk (n - (i + 1)) (by omega) (hJ _ _ _ ⟨i + 1, ro.set i (.slice (some ⟨α2.n, 0, none⟩) n 0), fun a => if a = i then α2.n else ids a, rfl, by omega, by simp, ?_, ?_, ?_, by simp [hro], fun a ha => ?_, fun a b ha hb he => ?_⟩)
    · exact ((hf.alloc (by omega) _).set (by omega) _).set (by omega) _
    · simp; omega
    · rw [AH.set_get_ne _ _ hne, AH.set_get]
    · by_cases h1 : a = i
      · subst h1
        simp only [if_pos]
        refine ⟨by simp [hro, ci], hn2, by simp, _, AH.set_get _ _ _, by simp, fun j hj => ?_⟩
        rw [List.getElem?_set]
        by_cases h2 : a = j
        · subst h2; simp [ci]
        · rw [if_neg h2]; simp [hj, h2]
      · simp only [if_neg h1]
        obtain ⟨a1, a2, a3, b, b1, b2, b3⟩ := hrow a (by omega)
        refine ⟨by rw [List.getElem?_set_ne (Ne.symm h1)]; exact a1, a2, by simp; omega, b, ?_, b2, b3⟩
        rw [AH.set_get_ne _ _ (by omega), AH.set_get_ne _ _ (by omega), AH.alloc_get_ne _ _ (by omega)]
        exact b1
    · by_cases h1 : a = i <;> by_cases h2 : b = i <;> simp only [h1, h2, if_true, if_false] at he
      · omega
      · have := (hrow b (by omega)).2.2.1; omega
      · have := (hrow a (by omega)).2.2.1; omega
      · exact hinj a b (by omega) (by omega) he
  · have : i = n := by omega
    subst this
    simp +contextual [t9, hf]
    refine ⟨ro, ids, fun _ => 0, ?_, hro, fun a ha => ?_, hinj⟩
    · rw [← hro]
      refine .inr ⟨α.n, 0, _, rfl, Nat.le_refl _, hn2, hg, rfl, rfl, by simp [rawK], fun a ha => ?_⟩
      obtain ⟨a1, _⟩ := hrow a (by omega)
      rw [List.getElem?_eq_getElem ha] at a1
      injection a1 with a1
      refine ⟨?_, by rw [a1]; rfl⟩
      show (ro.drop (a * 1)).take 1 = _
      rw [Nat.mul_one]
      exact win1 (List.getElem?_eq_getElem ha)
    · obtain ⟨a1, a2, a3⟩ := hrow a ha
      exact ⟨a1, by omega, a3⟩
end Go.Proofs.Ytggkeldedennfaa
