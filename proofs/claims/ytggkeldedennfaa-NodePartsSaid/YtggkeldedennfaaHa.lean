/- Contracts: horariumref3.Sum, Total, Tidy. -/
import Derived.Test.YtggkeldedennfaaDa
set_option linter.unusedVariables false
set_option linter.unusedSimpArgs false
namespace Go.Nod
def big : Int := 9223372036854775807
def pos0 (a : Int) : Int := if a < 0 then 0 else a
def sumM (a b : Int) : Int := if big - pos0 b < pos0 a then big else pos0 a + pos0 b
theorem sumM_bd (a b : Int) (ha : a ≤ big) : 0 ≤ sumM a b ∧ sumM a b ≤ big := by unfold sumM pos0 big at *; (repeat' split) <;> omega
def totM (xs : List Rn) : Int := xs.foldl (fun n r => sumM n r.n) 0
def tdS (out : List Rn) (r : Rn) : List Rn :=
  if r.n < 1 then out else match out.getLast? with
  | some q => if q.p = r.p then out.dropLast ++ [⟨q.p, sumM q.n r.n⟩] else out ++ [r]
  | none => [r]
def tidyM (xs : List Rn) : List Rn := xs.foldl tdS []
theorem tdS_len (out : List Rn) (r : Rn) : (tdS out r).length ≤ out.length + 1 := by
  unfold tdS
  split
  · omega
  · split
    · split <;> simp
    · simp
theorem tidy_len (xs : List Rn) : (tidyM xs).length ≤ xs.length := by
  suffices ∀ (ys out : List Rn), (ys.foldl tdS out).length ≤ out.length + ys.length by simpa [tidyM] using this xs []
  intro ys
  induction ys with
  | nil => intro out; simp
  | cons y ys ih => intro out; have h1 := ih (tdS out y); have h2 := tdS_len out y; simp only [List.foldl_cons, List.length_cons]; omega
/-- whole numbers of 64 bits -/
def ok64 (n : Int) : Prop := -9223372036854775808 ≤ n ∧ n ≤ big
end Go.Nod
namespace Go.Proofs.Ytggkeldedennfaa
open Go Go.RowKit Go.Lay Go.Nod

set_option maxRecDepth 100000 in
theorem sum_ok (a b : Int) (α : AH) (ha : a ≤ big) (hb : b ≤ big) : NCalls Try.prog 69 [.int .i64 a, .int .i64 b] α (fun v α' => v = .int .i64 (sumM a b) ∧ α' = α) := by
  refine ncw mixd Try.func69 rfl Try.results69 (by kernel_rfl) ?_
  have e1 : (if 0 > a then (0 : Int) else a) = pos0 a := rfl
  have e2 : (if 0 > b then (0 : Int) else b) = pos0 b := rfl
  have h1 : 0 ≤ pos0 a ∧ pos0 a ≤ big := by unfold pos0 big at *; split <;> omega
  have h2 : 0 ≤ pos0 b ∧ pos0 b ≤ big := by unfold pos0 big at *; split <;> omega
  simp only [gt_iff_lt] at e1 e2
  unfold big at h1 h2
  simp [e1, e2]
  have e3 : IntKind.i64.wrap (9223372036854775807 - pos0 b) = 9223372036854775807 - pos0 b := w64 (by omega)
  by_cases c : 9223372036854775807 - pos0 b < pos0 a
  · simp [e3, c, sumM, big]
  · have e4 : IntKind.i64.wrap (pos0 a + pos0 b) = pos0 a + pos0 b := w64 (by omega)
    simp [e3, e4, c, sumM, big]

set_option maxRecDepth 100000 in
theorem total_ok (xs : List Rn) (α : AH) (v : Value) (h : Runs α v xs) (hb : ∀ x ∈ xs, x.n ≤ big) (hl : xs.length ≤ 1000000000000) :
    NCalls Try.prog 55 [v] α (fun r α' => r = .int .i64 (totM xs) ∧ Fr α.n α α') := by
  obtain ⟨xi, xo, xl, xidx, xld⟩ := h.rdf (t := 84) Try.underlying84 sz102
  refine ncw mixd Try.func55 rfl Try.results55 (by kernel_rfl) ?_
  simp [xl]
  refine wlp [3, 5] 8 16 (by kernel_rfl) xs.length (fun k t α' => ∃ (i : Nat) (n : Int), k = xs.length - i ∧ i ≤ xs.length ∧ t 8 = .int .i64 i ∧ t 3 = .int .i64 n ∧ n = (xs.take i).foldl (fun n r => sumM n r.n) 0 ∧ n ≤ big ∧ Fr α.n α α')
    ⟨0, 0, by omega, by omega, by simp, by simp, rfl, by decide, .refl _ _⟩ ?_
  rintro J hJ k t α1 ⟨i, n, rfl, hi, t8, t3, hn, hnb, hf⟩
  by_cases ci : i < xs.length
  · obtain ⟨b, hb', bp⟩ := xld _ hf
    obtain ⟨b1, b2, -⟩ := bp i ci
    simp only [Rn.enc] at b2
    have e1 : IntKind.i64.wrap ((i : Int) + 1) = (i : Int) + 1 := w64 (by omega)
    simp [t8, t3, ci, xidx .i64 i ci, hb' (by omega), b1, b2, aalloc]
    refine (sum_ok _ _ _ hnb (hb _ (List.getElem_mem ci))).mono fun r β hr => ?_
    obtain ⟨rfl, rfl⟩ := hr
    simp [t8, e1]
    refine agn_mk (xs.length - (i + 1)) (by omega) (hJ _ _ _ ⟨i + 1, sumM n xs[i].n, rfl, by omega, by simp, by simp, ?_, (sumM_bd _ _ hnb).2, hf.alloc hf.n _⟩)
    rw [foldl_take _ _ _ ci, ← hn]
  · have : i = xs.length := by omega
    subst this
    simp [t8, t3, hf, hn, totM]

theorem getLast_get {out : List Rn} {q : Rn} (h : out.getLast? = some q) : ∃ h : out.length - 1 < out.length, out[out.length - 1] = q := by
  rw [List.getLast?_eq_getElem?, List.getElem?_eq_some_iff] at h
  exact h
set_option maxRecDepth 100000 in
set_option maxHeartbeats 1000000 in
theorem tidy_ok (xs : List Rn) (α : AH) (v : Value) (h : Runs α v xs) (hb : ∀ x ∈ xs, x.n ≤ big) (hl : xs.length ≤ 1000000000) :
    NCalls Try.prog 67 [v] α (fun r α' => OwR α.n α' r (tidyM xs) ∧ Fr α.n α α') := by
  obtain ⟨xi, xo, xl, xidx, xld⟩ := h.rdf (t := 84) Try.underlying84 sz102
  refine ncw mixd Try.func67 rfl Try.results67 (by kernel_rfl) ?_
  simp [xl]
  refine wlp [3, 5, 6] 9 49 (by kernel_rfl) xs.length (fun k t α' => ∃ (i : Nat) (out : List Rn), k = xs.length - i ∧ i ≤ xs.length ∧ t 9 = .int .i64 i ∧ OwR α.n α' (t 3) out ∧ out = (xs.take i).foldl tdS [] ∧ out.length ≤ i ∧ (∀ x ∈ out, x.n ≤ big) ∧ Fr α.n α α')
    ⟨0, [], by omega, by omega, by simp, .nil, rfl, by simp, by simp, .refl _ _⟩ ?_
  rintro J hJ k t α1 ⟨i, out, rfl, hi, t9, ho, hout, hol, hob, hf⟩
  by_cases ci : i < xs.length
  case neg =>
    have : i = xs.length := by omega
    subst this
    rw [List.take_length] at hout
    simp [t9, hf]
    rw [tidyM, ← hout]
    exact ho
  obtain ⟨b, hb', bp⟩ := xld _ hf
  obtain ⟨b1, b2, -⟩ := bp i ci
  simp only [Rn.enc] at b2
  have e1 : IntKind.i64.wrap ((i : Int) + 1) = (i : Int) + 1 := w64 (by omega)
  have hxb := hb _ (List.getElem_mem ci)
  obtain ⟨oa, oc, hov⟩ := ho.sl.isSl
  have ho1 := ho.fr (Fr.alloc0 α1 ⟨[.int .i64 xs[i].p, .int .i64 xs[i].n], 102, true⟩)
  have hf1 : Fr α.n α (α1.alloc ⟨[.int .i64 xs[i].p, .int .i64 xs[i].n], 102, true⟩) := hf.alloc hf.n _
  have hg1 := AH.alloc_get α1 ⟨[.int .i64 xs[i].p, .int .i64 xs[i].n], 102, true⟩
  simp [t9, ci, xidx .i64 i ci, hb' (by omega), b1, b2, aalloc, hov]
  generalize hα2 : α1.alloc _ = α2 at *
  have fin : ∀ (s' : AS) (γ : AH), s' 9 = .int .i64 ((i : Int) + 1) → OwR α.n γ (s' 3) (tdS out xs[i]) → (∀ x ∈ tdS out xs[i], x.n ≤ big) → Fr α.n α γ → agn J (xs.length - i) s' γ := fun s' γ h1 h2 h3 h4 =>
    agn_mk (xs.length - (i + 1)) (by omega) (hJ _ _ _ ⟨i + 1, tdS out xs[i], rfl, by omega, by simpa using h1, h2, by rw [foldl_take _ _ _ ci, ← hout], by have := tdS_len out xs[i]; omega, h3, h4⟩)
  by_cases c1 : xs[i].n < 1
  · simp [hg1, c1, t9, e1]
    have e : tdS out xs[i] = out := by rw [tdS, if_pos c1]
    exact fin _ _ (by simp) (by rw [e]; exact ho1) (by rw [e]; exact hob) hf1
  simp [hg1, c1]
  refine wdraw (tks [0, 0, 0, 0, 0, 0, 0, 0, 0, 0, 0, 0, 0] (.done)) (by kernel_rfl) ?_
  have app : (∀ q, out.getLast? = some q → q.p ≠ xs[i].p) → ∃ w α3, aappend Try.prog #[84, 84] (t 3) (.slice (some ⟨α2.n, 0, none⟩) 1 0) (α2.alloc ⟨[.int .i64 xs[i].p, .int .i64 xs[i].n], 102, true⟩) = some (w, α3) ∧
      ∀ s' : AS, s' 9 = .int .i64 ((i : Int) + 1) → s' 3 = w → agn J (xs.length - i) s' α3 := fun hq => by
    obtain ⟨w, α3, p1, p2, p3, -⟩ := ho1.push el84 hf1.n (x := xs[i]) (c := [.int .i64 xs[i].p, .int .i64 xs[i].n]) rfl (flatK_apart _ _ _ _ _) (by omega) 0
    have e : tdS out xs[i] = out ++ [xs[i]] := by
      rw [tdS, if_neg c1]
      split
      · rename_i q h; rw [if_neg (hq q h)]
      · rename_i h; rw [List.getLast?_eq_none_iff] at h; simp [h]
    exact ⟨w, α3, p1, fun s' h1 h2 => fin _ _ h1 (by rw [e, h2]; exact p2) (by rw [e]; intro x hx; simp at hx; rcases hx with hx | rfl; exact hob x hx; exact hxb) (hf1.trans p3)⟩
  by_cases c2 : out.length = 0
  · have : out = [] := List.eq_nil_of_length_eq_zero c2
    subst this
    obtain ⟨w, α3, hap, fin⟩ := app (fun q h => by simp at h)
    simp [hg1, hap, t9, e1]
    exact fin _ (by simp) (by simp)
  obtain ⟨q, hq⟩ : ∃ q, out.getLast? = some q := by
    cases h : out.getLast? with
    | some q => exact ⟨q, rfl⟩
    | none => rw [List.getLast?_eq_none_iff] at h; simp [h] at c2
  obtain ⟨hlt, hqe⟩ := getLast_get hq
  obtain ⟨oi, oc', cs, hov', o2, o3, o4, o5, o6⟩ := ho1.mem (by omega)
  rw [hov] at hov'
  cases hov'
  have o6' : (cs.drop ((out.length - 1) * 2)).take 2 = [.int .i64 q.p, .int .i64 q.n] := by have := o6 _ hlt; rw [hqe] at this; exact this
  have o5 : out.length * 2 ≤ cs.length := o5
  have hc0 : cs[(out.length - 1) * 2]? = some (.int .i64 q.p) := take_get (j := 0) o6' (by simp)
  have hc1 : cs[(out.length - 1) * 2 + 1]? = some (.int .i64 q.n) := take_get (j := 1) o6' (by simp)
  have e2 : IntKind.i64.wrap ((out.length : Int) - 1) = ((out.length - 1 : Nat) : Int) := by rw [w64 (by omega)]; omega
  have c3 : (0 : Int) < out.length := by omega
  have c3' : 0 < out.length := by omega
  have hqb := hob q (List.mem_of_getLast? hq)
  by_cases c4 : q.p = xs[i].p
  · simp [hg1, hov, c3, c3', e2, o4, hc0, hlt, c4]
    refine wdraw (tks [0, 0, 0, 0, 0, 0, 0, 0, 0, 0, 0] (.pick (.cons 0 (.take 0 (.take 0 (.pick (.cons 0 (.done) .nil)))) .nil))) (by kernel_rfl) ?_
    simp [hg1, hov, c3, c3', e2, o4, hc1, hlt]
    refine (sum_ok _ _ _ hqb hxb).mono fun r β hr => ?_
    obtain ⟨rfl, rfl⟩ := hr
    have hlt2 : (out.length - 1) * 2 + 1 + 1 ≤ cs.length := by omega
    simp [o4, hlt, hlt2, t9, e1]
    have e : tdS out xs[i] = out.set (out.length - 1) ⟨q.p, sumM q.n xs[i].n⟩ := by
      rw [tdS, if_neg c1, hq]
      simp only [c4, if_pos]
      rw [List.set_eq_take_append_cons_drop, if_pos hlt, List.dropLast_eq_take, List.drop_eq_nil_of_le (by omega)]
    refine fin _ _ (by simp) ?_ ?_ (hf1.set o2 _)
    · rw [e]
      simp
      rw [hov]
      refine Ow.put1 (K := runK) (flatK_apart _ _ _ _ _) o2 o3 o4 o5 o6 (out.length - 1) 1 (by decide) _ ⟨q.p, sumM q.n xs[i].n⟩ ?_ _ rfl
      show (((cs.drop ((out.length - 1) * 2)).take 2).set 1 _) = _
      rw [o6']; rfl
    · rw [e]
      intro x hx
      rcases List.mem_or_eq_of_mem_set hx with hx | rfl
      · exact hob x hx
      · exact (sumM_bd _ _ hqb).2
  · obtain ⟨w, α3, hap, fin⟩ := app (fun q' h => by rw [hq] at h; cases h; exact c4)
    rw [hov] at hap
    simp [hg1, hov, c3, c3', e2, o4, hc0, hlt, c4, hap, t9, e1]
    exact fin _ (by simp) (by simp)
end Go.Proofs.Ytggkeldedennfaa
