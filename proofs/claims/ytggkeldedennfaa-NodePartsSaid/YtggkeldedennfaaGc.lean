/- Contracts: Closure of graph and of the reference. Printed by closgen.py. -/
import Derived.Test.YtggkeldedennfaaGa
set_option linter.unusedVariables false
set_option linter.unusedSimpArgs false
namespace Go.Proofs.Ytggkeldedennfaa
open Go Go.RowKit Go.Lay Go.Nod
theorem nilC (e : TypeId) (α : AH) : (α.alloc ⟨[], e, true⟩).get α.n = some ⟨[], e, true⟩ := AH.alloc_get _ _
theorem mkE (α : AH) : abuildSlice Try.prog 40 0 [] α = some (.slice (some ⟨α.n, 0, none⟩) 0 0, α.alloc ⟨[], 4, true⟩) := by simp
theorem ow0 {τ : Type} (e : TypeId) (K : Kd τ) (α : AH) (c : Nat) : Ow α.n e K (α.alloc ⟨[], e, true⟩) (.slice (some ⟨α.n, 0, none⟩) 0 c) [] := .inr ⟨α.n, c, _, rfl, Nat.le_refl _, by simp, AH.alloc_get _ _, rfl, rfl, by simp, fun i hi => by simp at hi⟩
abbrev Bools (α : AH) (v : Value) (xs : List Bool) : Prop := Sl 4 boolK α v xs
/-- a copy of a row of bools, behind an empty row -/
theorem cpB {α : AH} {v : Value} {xs : List Bool} (h : Bools α v xs) (hl : xs.length ≤ 1000000000) : ∃ v' α', aappend Try.prog #[40, 40] (.slice (some ⟨α.n, 0, none⟩) 0 0) v (α.alloc ⟨[], 4, true⟩) = some (v', α') ∧ Ow α.n 4 boolK α' v' xs ∧ Fr α.n α α' := by
  obtain ⟨v', α', h1, h2, h3, -⟩ := (ow0 4 boolK α 0).append (t := 40) el40 (by simp) (h.fr (Fr.alloc0 _ _)) (boolK_apart _) (by simp; omega)
  exact ⟨v', α', h1, by simpa using h2, (Fr.alloc0 _ _).trans h3⟩
set_option maxRecDepth 100000 in
theorem clone_ok (xs : List Bool) (α : AH) (v : Value) (h : Bools α v xs) (hl : xs.length ≤ 1000000000) :
    NCalls Try.prog 42 [v] α (fun r α' => Ow α.n 4 boolK α' r xs ∧ Fr α.n α α') := by
  obtain ⟨v', α', h1, h2, h3⟩ := cpB h hl
  rcases h with ⟨rfl, rfl⟩ | ⟨id, off, c, b, rfl, _⟩
  · refine ncw mixd Try.func42 rfl Try.results42 (by kernel_rfl) ?_
    simp
    exact .nil
  · refine ncw mixd Try.func42 rfl Try.results42 (by kernel_rfl) ?_
    simp [h1, h2, h3]
def matF (ms : List (List Bool)) (a b : Nat) : Bool := ((ms[a]?.getD [])[b]?).getD false
def cl1 (b a : Nat) (f : Nat → Nat → Bool) (c : Nat) : Nat → Nat → Bool := upd2 f a c (f a c || (f a b && f b c))
def cl2 (n b : Nat) (f : Nat → Nat → Bool) (a : Nat) : Nat → Nat → Bool := (List.range n).foldl (cl1 b a) f
def cl3 (n : Nat) (f : Nat → Nat → Bool) (b : Nat) : Nat → Nat → Bool := (List.range n).foldl (cl2 n b) f
def clM (n : Nat) (f : Nat → Nat → Bool) : Nat → Nat → Bool := (List.range n).foldl (cl3 n) f
theorem fold_succ {σ : Type} (g : σ → Nat → σ) (a : σ) (n : Nat) : (List.range (n + 1)).foldl g a = g ((List.range n).foldl g a) n := by rw [List.range_succ, List.foldl_append]; rfl
/-- A row of rows, read. -/
theorem mats_rd {α : AH} {v : Value} {ms : List (List Bool)} (h : Mats α v ms) : ∃ id off, alen Try.prog #[38] v = some (.int .i64 (ms.length : Int)) ∧
    (∀ (k : IntKind) (i : Nat), i < ms.length → aindexAddr Try.prog 38 v (.int k (i : Int)) = some (.pointer (some ⟨id, off + i, none⟩))) ∧
    ∀ β, Fr α.n α β → ∃ b, (0 < ms.length → β.get id = some b) ∧ ∀ (i : Nat) (hi : i < ms.length), ∃ u, b.cells[off + i]? = some u ∧ Bools β u ms[i] := by
  obtain ⟨id, off, a1, a2, a3⟩ := h.rd1 (t := 38) Try.underlying38 sz40
  refine ⟨id, off, a1, fun k i hi => by have := a2 k i hi; rw [show (sliceK 4 boolK).sz = 1 from rfl, Nat.mul_one] at this; exact this, fun β hf => ?_⟩
  obtain ⟨b, b1, b2⟩ := a3 β hf
  refine ⟨b, b1, fun i hi => ?_⟩
  obtain ⟨b3, u, b4, b5⟩ := b2 i hi
  rw [show (sliceK 4 boolK).sz = 1 from rfl, Nat.mul_one] at b4
  exact ⟨u, take_get b4 (j := 0) (by simp), b5⟩

set_option maxRecDepth 100000 in
set_option maxHeartbeats 1000000 in
theorem closure_ok (ms : List (List Bool)) (α : AH) (v : Value) (h : Mats α v ms) (hl : ms.length ≤ 1000) :
    NCalls Try.prog 13 [v] α (fun r α' => ((∀ x ∈ ms, x.length = ms.length) → MX α.n α' r ms.length ms.length (clM ms.length (matF ms))) ∧ ((¬ ∀ x ∈ ms, x.length = ms.length) → r = .slice none 0 0) ∧ Fr α.n α α') := by
  obtain ⟨mid, moff, ml, midx, mld⟩ := mats_rd h
  refine ncw mixd Try.func13 rfl Try.results13 (by kernel_rfl) ?_
  simp +contextual [ml]
  refine wlp [2, 3, 5] 11 25 (by kernel_rfl) ms.length (fun k t α' => ∃ i, k = ms.length - i ∧ i ≤ ms.length ∧ t 11 = .int .i64 i ∧ MX α.n α' (t 3) i ms.length (matF ms) ∧ (∀ j (hj : j < ms.length), j < i → ms[j].length = ms.length) ∧ Fr α.n α α')
    ⟨0, by omega, by omega, by simp, ⟨[], fun _ => 0, fun _ => 0, .nil, rfl, fun i hi => by omega, fun i j hi => by omega⟩, fun j _ hj => by omega, .refl _ _⟩ ?_
  rintro J hJ k t α1 ⟨i, rfl, hi, t11, hM, hsq, hf⟩
  by_cases ci : i < ms.length
  · have e1 : IntKind.i64.wrap ((i : Int) + 1) = (i : Int) + 1 := w64 (by omega)
    obtain ⟨b, hb, bp⟩ := mld _ hf
    obtain ⟨u, hu, hB⟩ := bp i ci
    obtain ⟨-, -, ul, -⟩ := hB.rd (t := 40) Try.underlying40 sz4
    by_cases cl : ms[i].length = ms.length
    case neg =>
      simp +contextual [t11, ci, midx .i64 i ci, hb (by omega), hu, ul, cl, ml]
      exact ⟨fun h => absurd (h _ (List.getElem_mem ci)) cl, hf⟩
    obtain ⟨vs, ids, cs, h0⟩ := hM
    have fin : ∀ (γ : AH) (r : Value), Ow α1.n 4 boolK γ r ms[i] → Fr α1.n α1 γ → ∃ w α2, aappend Try.prog #[38, 38] (t 3) (.slice (some ⟨γ.n, 0, none⟩) 1 0) (γ.alloc ⟨[r], 40, true⟩) = some (w, α2) ∧
        ∀ s' : AS, s' 11 = .int .i64 ((i : Int) + 1) → s' 3 = w → agn J (ms.length - i) s' α2 := fun γ r ho hg => by
      obtain ⟨id, c, cells, rfl, g1, g2, g3, g4, g5⟩ := ho.mem (by omega)
      rw [cl, show boolK.sz = 1 from rfl, Nat.mul_one] at g4
      obtain ⟨w, α2, p1, p2, p3⟩ := (h0.fr hg).push (i := id) (ci := c) (rb := cells) (g := matF ms i) (by have := hf.n; omega) g2 g3 g4 (fun j hj => by
        have g6 : (cells.drop (j * 1)).take 1 = [.bool (ms[i]'ci)[j]] := g5 j (by omega)
        have := take_get (l := cells) (o := j * 1) (j := 0) g6 (by simp)
        simp [matF, List.getElem?_eq_getElem ci, List.getElem?_eq_getElem (show j < ms[i].length by omega)]
        simpa using this) (by omega) 0 (fun k hk => by have := (h0.row k hk).2.2.1; omega)
      rw [cl]
      refine ⟨w, α2, p1, fun s' s11 s3 => agn_mk (ms.length - (i + 1)) (by omega) (hJ _ _ _ ⟨i + 1, rfl, by omega, by simpa using s11, ?_, fun j hj1 hj2 => ?_, (hf.trans (hg.mono hf.n)).trans p3⟩)⟩
      · rw [s3]; exact p2.congr fun a b _ _ => by split <;> simp_all
      · by_cases hji : j = i
        · subst hji; exact cl
        · exact hsq j hj1 (by omega)
    simp +contextual [t11, ci, midx .i64 i ci, hb (by omega), hu, ul, cl, ml]
    refine (clone_ok _ _ _ hB (by omega)).mono fun r γ hr => ?_
    obtain ⟨ho, hg⟩ := hr
    obtain ⟨ra, rc, rfl⟩ := ho.sl.isSl
    obtain ⟨w, α2, hap, fin⟩ := fin γ _ ho hg
    simp +contextual [hap, t11, e1]
    exact fin _ (by simp) (by simp)
  have : i = ms.length := by omega
  subst this
  have hall : ∀ x ∈ ms, x.length = ms.length := fun x hx => by
    obtain ⟨j, hj, rfl⟩ := List.mem_iff_getElem.1 hx
    exact hsq j hj hj
  obtain ⟨ma, mc, hma⟩ := hM.isSl
  rw [hma] at hM
  simp +contextual [t11, hma]
  refine wlp [6, 7, 8] 28 74 (by kernel_rfl) ms.length (fun k t α' => ∃ i, k = ms.length - i ∧ i ≤ ms.length ∧ t 28 = .int .i64 i ∧ MX α.n α' (.slice ma ms.length mc) ms.length ms.length ((List.range i).foldl (cl3 ms.length) (matF ms)) ∧ Fr α.n α α')
    ⟨0, by omega, by omega, by simp, by simpa using hM, hf⟩ ?_
  rintro J hJ k t2 α2 ⟨b, rfl, hb, t28, hM, hf⟩
  by_cases cb : b < ms.length
  case neg =>
    have : b = ms.length := by omega
    subst this
    simp +contextual [t28, hma]
    exact ⟨fun _ => hM, fun x hx h => absurd (hall x hx) h, hf⟩
  have e1 : IntKind.i64.wrap ((b : Int) + 1) = (b : Int) + 1 := w64 (by omega)
  simp +contextual [t28, cb, hma]
  refine wlp [7, 8] 33 73 (by kernel_rfl) ms.length (fun k t α' => ∃ i, k = ms.length - i ∧ i ≤ ms.length ∧ t 33 = .int .i64 i ∧ MX α.n α' (.slice ma ms.length mc) ms.length ms.length ((List.range i).foldl (cl2 ms.length b) ((List.range b).foldl (cl3 ms.length) (matF ms))) ∧ Fr α.n α α')
    ⟨0, by omega, by omega, by simp, by simpa using hM, hf⟩ ?_
  rintro J2 hJ2 k t3 α3 ⟨a, rfl, ha, t33, hM, hf⟩
  by_cases ca : a < ms.length
  case neg =>
    have : a = ms.length := by omega
    subst this
    simp +contextual [t28, t33, e1]
    exact agn_mk (ms.length - (b + 1)) (by omega) (hJ _ _ _ ⟨b + 1, rfl, by omega, by simp, by rw [fold_succ]; exact hM, hf⟩)
  have e2 : IntKind.i64.wrap ((a : Int) + 1) = (a : Int) + 1 := w64 (by omega)
  simp +contextual [t28, t33, ca, hma]
  refine wlp [8] 38 72 (by kernel_rfl) ms.length (fun k t α' => ∃ i, k = ms.length - i ∧ i ≤ ms.length ∧ t 38 = .int .i64 i ∧ MX α.n α' (.slice ma ms.length mc) ms.length ms.length ((List.range i).foldl (cl1 b a) ((List.range a).foldl (cl2 ms.length b) ((List.range b).foldl (cl3 ms.length) (matF ms)))) ∧ Fr α.n α α')
    ⟨0, by omega, by omega, by simp, by simpa using hM, hf⟩ ?_
  rintro J3 hJ3 k t4 α4 ⟨c, rfl, hc, t38, hM, hf⟩
  by_cases cc : c < ms.length
  case neg =>
    have : c = ms.length := by omega
    subst this
    simp +contextual [t33, t38, e2]
    exact agn_mk (ms.length - (a + 1)) (by omega) (hJ2 _ _ _ ⟨a + 1, rfl, by omega, by simp, by rw [fold_succ]; exact hM, hf⟩)
  have e3 : IntKind.i64.wrap ((c : Int) + 1) = (c : Int) + 1 := w64 (by omega)
  simp +contextual [t28, t33, t38, cc, hma]
  refine wdraw (tks [0, 0, 0, 0, 0, 0, 0, 0, 0, 0, 0, 0, 0, 0, 0, 0, 0, 0, 0, 0, 0, 0, 0, 0, 0, 0, 0, 0, 0, 0, 0] (.pick (.cons 0 (.done) .nil))) (by kernel_rfl) ?_
  generalize hF : (List.range c).foldl (cl1 b a) ((List.range a).foldl (cl2 ms.length b) ((List.range b).foldl (cl3 ms.length) (matF ms))) = F at *
  obtain ⟨o, oc, ro, id, ci, ri, kd, ck, rk, q1, q2, q3, q3', q4, q4', q5, q5', q6, q6', q7, q7', q8, -⟩ := hM.at2 ca cc cb cc
  injection q1 with q1
  subst q1
  have fin : ∀ (s' : AS) (x : Bool), s' 38 = .int .i64 ((c : Int) + 1) → x = (F a c || (F a b && F b c)) → agn J3 (ms.length - c) s' (α4.set id (some ⟨ri.set c (.bool x), 4, true⟩)) := fun s' x h1 h2 =>
    agn_mk (ms.length - (c + 1)) (by omega) (hJ3 _ _ _ ⟨c + 1, rfl, by omega, by simpa using h1, by rw [fold_succ, hF]; subst h2; exact q8 _, hf.set q7 _⟩)
  simp +contextual [t28, t33, t38, hma, ca, cb, cc, q2, q3, q3', q4, q4', q5, q6 c cc, q6 b cb, q6' c cc, e3]
  repeat' refine both.mk (fun _ => ?_) (fun _ => ?_)
  all_goals exact fin _ _ (by simp) (by simp_all)

set_option maxRecDepth 100000 in
set_option maxHeartbeats 1000000 in
theorem rclosure_ok (ms : List (List Bool)) (α : AH) (v : Value) (h : Mats α v ms) (hl : ms.length ≤ 1000) :
    NCalls Try.prog 16 [v] α (fun r α' => ((∀ x ∈ ms, x.length = ms.length) → MX α.n α' r ms.length ms.length (clM ms.length (matF ms))) ∧ ((¬ ∀ x ∈ ms, x.length = ms.length) → r = .slice none 0 0) ∧ Fr α.n α α') := by
  obtain ⟨mid, moff, ml, midx, mld⟩ := mats_rd h
  refine ncw mixd Try.func16 rfl Try.results16 (by kernel_rfl) ?_
  simp +contextual [ml]
  refine wlp [2, 3, 5] 11 26 (by kernel_rfl) ms.length (fun k t α' => ∃ i, k = ms.length - i ∧ i ≤ ms.length ∧ t 11 = .int .i64 i ∧ MX α.n α' (t 3) i ms.length (matF ms) ∧ (∀ j (hj : j < ms.length), j < i → ms[j].length = ms.length) ∧ Fr α.n α α')
    ⟨0, by omega, by omega, by simp, ⟨[], fun _ => 0, fun _ => 0, .nil, rfl, fun i hi => by omega, fun i j hi => by omega⟩, fun j _ hj => by omega, .refl _ _⟩ ?_
  rintro J hJ k t α1 ⟨i, rfl, hi, t11, hM, hsq, hf⟩
  by_cases ci : i < ms.length
  · have e1 : IntKind.i64.wrap ((i : Int) + 1) = (i : Int) + 1 := w64 (by omega)
    obtain ⟨b, hb, bp⟩ := mld _ hf
    obtain ⟨u, hu, hB⟩ := bp i ci
    obtain ⟨-, -, ul, -⟩ := hB.rd (t := 40) Try.underlying40 sz4
    by_cases cl : ms[i].length = ms.length
    case neg =>
      simp +contextual [t11, ci, midx .i64 i ci, hb (by omega), hu, ul, cl, ml]
      exact ⟨fun h => absurd (h _ (List.getElem_mem ci)) cl, hf⟩
    obtain ⟨vs, ids, cs, h0⟩ := hM
    have fin : ∀ (γ : AH) (r : Value), Ow α1.n 4 boolK γ r ms[i] → Fr α1.n α1 γ → ∃ w α2, aappend Try.prog #[38, 38] (t 3) (.slice (some ⟨γ.n, 0, none⟩) 1 0) (γ.alloc ⟨[r], 40, true⟩) = some (w, α2) ∧
        ∀ s' : AS, s' 11 = .int .i64 ((i : Int) + 1) → s' 3 = w → agn J (ms.length - i) s' α2 := fun γ r ho hg => by
      obtain ⟨id, c, cells, rfl, g1, g2, g3, g4, g5⟩ := ho.mem (by omega)
      rw [cl, show boolK.sz = 1 from rfl, Nat.mul_one] at g4
      obtain ⟨w, α2, p1, p2, p3⟩ := (h0.fr hg).push (i := id) (ci := c) (rb := cells) (g := matF ms i) (by have := hf.n; omega) g2 g3 g4 (fun j hj => by
        have g6 : (cells.drop (j * 1)).take 1 = [.bool (ms[i]'ci)[j]] := g5 j (by omega)
        have := take_get (l := cells) (o := j * 1) (j := 0) g6 (by simp)
        simp [matF, List.getElem?_eq_getElem ci, List.getElem?_eq_getElem (show j < ms[i].length by omega)]
        simpa using this) (by omega) 0 (fun k hk => by have := (h0.row k hk).2.2.1; omega)
      rw [cl]
      refine ⟨w, α2, p1, fun s' s11 s3 => agn_mk (ms.length - (i + 1)) (by omega) (hJ _ _ _ ⟨i + 1, rfl, by omega, by simpa using s11, ?_, fun j hj1 hj2 => ?_, (hf.trans (hg.mono hf.n)).trans p3⟩)⟩
      · rw [s3]; exact p2.congr fun a b _ _ => by split <;> simp_all
      · by_cases hji : j = i
        · subst hji; exact cl
        · exact hsq j hj1 (by omega)
    obtain ⟨r, γ, hcp, ho, hg⟩ := cpB hB (by omega)
    obtain ⟨ra, rc, rfl⟩ := ho.sl.isSl
    obtain ⟨w, α2, hap, fin⟩ := fin γ _ ho hg
    rw [cl] at hap
    simp +contextual [t11, ci, midx .i64 i ci, hb (by omega), hu, ul, cl, ml, hcp, hap, e1]
    exact fin _ (by simp) (by simp)
  have : i = ms.length := by omega
  subst this
  have hall : ∀ x ∈ ms, x.length = ms.length := fun x hx => by
    obtain ⟨j, hj, rfl⟩ := List.mem_iff_getElem.1 hx
    exact hsq j hj hj
  obtain ⟨ma, mc, hma⟩ := hM.isSl
  rw [hma] at hM
  simp +contextual [t11, hma]
  refine wlp [6, 7, 8] 29 75 (by kernel_rfl) ms.length (fun k t α' => ∃ i, k = ms.length - i ∧ i ≤ ms.length ∧ t 29 = .int .i64 i ∧ MX α.n α' (.slice ma ms.length mc) ms.length ms.length ((List.range i).foldl (cl3 ms.length) (matF ms)) ∧ Fr α.n α α')
    ⟨0, by omega, by omega, by simp, by simpa using hM, hf⟩ ?_
  rintro J hJ k t2 α2 ⟨b, rfl, hb, t28, hM, hf⟩
  by_cases cb : b < ms.length
  case neg =>
    have : b = ms.length := by omega
    subst this
    simp +contextual [t28, hma]
    exact ⟨fun _ => hM, fun x hx h => absurd (hall x hx) h, hf⟩
  have e1 : IntKind.i64.wrap ((b : Int) + 1) = (b : Int) + 1 := w64 (by omega)
  simp +contextual [t28, cb, hma]
  refine wlp [7, 8] 34 74 (by kernel_rfl) ms.length (fun k t α' => ∃ i, k = ms.length - i ∧ i ≤ ms.length ∧ t 34 = .int .i64 i ∧ MX α.n α' (.slice ma ms.length mc) ms.length ms.length ((List.range i).foldl (cl2 ms.length b) ((List.range b).foldl (cl3 ms.length) (matF ms))) ∧ Fr α.n α α')
    ⟨0, by omega, by omega, by simp, by simpa using hM, hf⟩ ?_
  rintro J2 hJ2 k t3 α3 ⟨a, rfl, ha, t33, hM, hf⟩
  by_cases ca : a < ms.length
  case neg =>
    have : a = ms.length := by omega
    subst this
    simp +contextual [t28, t33, e1]
    exact agn_mk (ms.length - (b + 1)) (by omega) (hJ _ _ _ ⟨b + 1, rfl, by omega, by simp, by rw [fold_succ]; exact hM, hf⟩)
  have e2 : IntKind.i64.wrap ((a : Int) + 1) = (a : Int) + 1 := w64 (by omega)
  simp +contextual [t28, t33, ca, hma]
  refine wlp [8] 39 73 (by kernel_rfl) ms.length (fun k t α' => ∃ i, k = ms.length - i ∧ i ≤ ms.length ∧ t 39 = .int .i64 i ∧ MX α.n α' (.slice ma ms.length mc) ms.length ms.length ((List.range i).foldl (cl1 b a) ((List.range a).foldl (cl2 ms.length b) ((List.range b).foldl (cl3 ms.length) (matF ms)))) ∧ Fr α.n α α')
    ⟨0, by omega, by omega, by simp, by simpa using hM, hf⟩ ?_
  rintro J3 hJ3 k t4 α4 ⟨c, rfl, hc, t38, hM, hf⟩
  by_cases cc : c < ms.length
  case neg =>
    have : c = ms.length := by omega
    subst this
    simp +contextual [t33, t38, e2]
    exact agn_mk (ms.length - (a + 1)) (by omega) (hJ2 _ _ _ ⟨a + 1, rfl, by omega, by simp, by rw [fold_succ]; exact hM, hf⟩)
  have e3 : IntKind.i64.wrap ((c : Int) + 1) = (c : Int) + 1 := w64 (by omega)
  simp +contextual [t28, t33, t38, cc, hma]
  refine wdraw (tks [0, 0, 0, 0, 0, 0, 0, 0, 0, 0, 0, 0, 0, 0, 0, 0, 0, 0, 0, 0, 0, 0, 0, 0, 0, 0, 0, 0, 0, 0, 0] (.pick (.cons 0 (.done) .nil))) (by kernel_rfl) ?_
  generalize hF : (List.range c).foldl (cl1 b a) ((List.range a).foldl (cl2 ms.length b) ((List.range b).foldl (cl3 ms.length) (matF ms))) = F at *
  obtain ⟨o, oc, ro, id, ci, ri, kd, ck, rk, q1, q2, q3, q3', q4, q4', q5, q5', q6, q6', q7, q7', q8, -⟩ := hM.at2 ca cc cb cc
  injection q1 with q1
  subst q1
  have fin : ∀ (s' : AS) (x : Bool), s' 39 = .int .i64 ((c : Int) + 1) → x = (F a c || (F a b && F b c)) → agn J3 (ms.length - c) s' (α4.set id (some ⟨ri.set c (.bool x), 4, true⟩)) := fun s' x h1 h2 =>
    agn_mk (ms.length - (c + 1)) (by omega) (hJ3 _ _ _ ⟨c + 1, rfl, by omega, by simpa using h1, by rw [fold_succ, hF]; subst h2; exact q8 _, hf.set q7 _⟩)
  simp +contextual [t28, t33, t38, hma, ca, cb, cc, q2, q3, q3', q4, q4', q5, q6 c cc, q6 b cb, q6' c cc, e3]
  repeat' refine both.mk (fun _ => ?_) (fun _ => ?_)
  all_goals exact fin _ _ (by simp) (by simp_all)
end Go.Proofs.Ytggkeldedennfaa
