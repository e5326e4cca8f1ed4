/- Contracts: Depends, Sways of graph and of the reference. Printed by graphgen.py. -/
import Derived.Test.YtggkeldedennfaaGa
set_option linter.unusedVariables false
set_option linter.unusedSimpArgs false
namespace Go.Proofs.Ytggkeldedennfaa
open Go Go.RowKit Go.Lay Go.Nod

set_option maxRecDepth 100000 in
set_option maxHeartbeats 1000000 in
theorem depends_ok (vp vc vt : Value) (c : Cf) (α : AH) (h : IsCfg α (.agg #[vp, vc, vt]) c) (hl : c.parts.length ≤ 1000) (hlc : c.chans.length ≤ 1000000000) :
    NCalls Try.prog 17 [.agg #[vp, vc, vt]] α (fun v α' => MX α.n α' v c.parts.length c.parts.length (depM c) ∧ Fr α.n α α') := by
  have h0 := h
  obtain ⟨_, _, _, he, h1, h2, h3⟩ := h
  cases he
  obtain ⟨pid, poff, pl, pidx, pld⟩ := part_rd h1
  obtain ⟨cid, coff, cl, cidx, cld⟩ := h2.rdf (t := 23) Try.underlying23 sz36
  refine ncw mixd Try.func17 rfl Try.results17 (by kernel_rfl) ?_
  simp +contextual [h1.isCell, h2.isCell, h3.isCell, pl]
  have hF1 := Fr.alloc0 α ⟨[vp, vc, vt], 26, true⟩
  have hg1 := AH.alloc_get α ⟨[vp, vc, vt], 26, true⟩
  have hn1 := AH.alloc_n α ⟨[vp, vc, vt], 26, true⟩
  generalize α.alloc _ = α1 at *
  refine (square_ok _ hl _).mono fun m β hm => ?_
  obtain ⟨hM, hf⟩ := hm
  obtain ⟨ma, mc, rfl⟩ := hM.isSl
  simp +contextual
  have rb : ∀ γ, Fr α1.n α1 γ → γ.get α.n = some ⟨[vp, vc, vt], 26, true⟩ := fun γ hγ => by rw [hγ.get _ (by omega)]; exact hg1
  refine wlp [4, 5] 14 48 (by kernel_rfl) c.parts.length (fun k t α' => ∃ i, k = c.parts.length - i ∧ i ≤ c.parts.length ∧ t 14 = .int .i64 i ∧ MX α1.n α' (.slice ma c.parts.length mc) c.parts.length c.parts.length (fun a b => if a < i then dep0 c.parts a b else false) ∧ Fr α1.n α1 α')
    ⟨0, by omega, by omega, by simp, by simpa using hM, hf⟩ ?_
  rintro J hJ k t α2 ⟨i, rfl, hi, t14, hM, hf⟩
  by_cases ci : i < c.parts.length
  · have e1 : IntKind.i64.wrap ((i : Int) + 1) = (i : Int) + 1 := w64 (by omega)
    simp +contextual [t14, ci]
    refine wlp [5] 19 47 (by kernel_rfl) c.parts.length (fun k t α' => ∃ j, k = c.parts.length - j ∧ j ≤ c.parts.length ∧ t 19 = .int .i64 j ∧ MX α1.n α' (.slice ma c.parts.length mc) c.parts.length c.parts.length (fun a b => if a < i ∨ a = i ∧ b < j then dep0 c.parts a b else false) ∧ Fr α1.n α1 α')
      ⟨0, by omega, by omega, by simp, by simpa using hM, hf⟩ ?_
    rintro J2 hJ2 k t2 α3 ⟨j, rfl, hj, t19, hM, hf⟩
    by_cases cj : j < c.parts.length
    · simp +contextual [t14, t19, cj]
      refine wdraw (tks [0, 0, 0, 0, 0, 0, 0, 0, 0, 0, 0, 0, 0, 0, 0, 0, 0, 0, 0, 0, 0, 0, 0, 0, 0] (.pick (.cons 0 (.done) .nil))) (by kernel_rfl) ?_
      obtain ⟨o, cc, ro, id, ci', rr, q1, q2, q3, q4, q5, q6, q7, q8, -, -, q9⟩ := hM.at ci cj
      rw [if_neg (by omega)] at q6
      injection q1 with q1
      subst q1
      have hfp := hF1.trans (hf.mono (by omega))
      obtain ⟨b, hb, bp⟩ := pld _ hfp
      obtain ⟨_, _, _, _, _, _, -, -, -, -, -, -, -, si, zi, -⟩ := bp i ci
      obtain ⟨_, _, _, _, _, _, -, -, -, -, -, -, -, sj, -⟩ := bp j cj
      have fin : ∀ (s' : AS) (x : Bool), s' 19 = .int .i64 ((j : Int) + 1) → x = dep0 c.parts i j → agn J2 (c.parts.length - j) s' (α3.set id (some ⟨rr.set j (.bool x), 4, true⟩)) := fun s' x h1 h2 =>
        agn_mk (c.parts.length - (j + 1)) (by omega) (hJ2 _ _ _ ⟨j + 1, rfl, by omega, by simpa using h1, (q9 x).congr fun a b _ _ => by
          simp only [upd2]
          by_cases e : a = i ∧ b = j
          · rw [if_pos e, h2, if_pos (by omega), e.1, e.2]
          · rw [if_neg e]; congr 1; simp only [eq_iff_iff]; omega, hf.set q7 _⟩)
      have e2 : IntKind.i64.wrap ((j : Int) + 1) = (j : Int) + 1 := w64 (by omega)
      simp +contextual [t14, t19, rb _ hf, ci, cj, pidx .i64 i ci, pidx .i64 j cj, hb (by omega), si, zi, sj, q2, q3, q4, q5, q6, e2]
      repeat' refine both.mk (fun _ => ?_) (fun _ => ?_)
      all_goals exact fin _ _ (by simp) (by simp_all [dep0])
    · have : j = c.parts.length := by omega
      subst this
      simp +contextual [t14, t19, e1]
      refine agn_mk (c.parts.length - (i + 1)) (by omega) (hJ _ _ _ ⟨i + 1, rfl, by omega, by simp, hM.congr fun a b _ hb => ?_, hf⟩)
      congr 1
      simp only [eq_iff_iff]; omega
  · have : i = c.parts.length := by omega
    subst this
    have hM : MX α1.n α2 (.slice ma c.parts.length mc) c.parts.length c.parts.length (dep0 c.parts) := hM.congr fun a b ha _ => by rw [if_pos ha]
    simp +contextual [t14, rb _ hf, h2.isCell, cl]
    refine wlp [7] 52 82 (by kernel_rfl) c.chans.length (fun k t α' => ∃ i, k = c.chans.length - i ∧ i ≤ c.chans.length ∧ t 52 = .int .i64 i ∧ MX α1.n α' (.slice ma c.parts.length mc) c.parts.length c.parts.length ((c.chans.take i).foldl (depS c.parts.length) (dep0 c.parts)) ∧ Fr α1.n α1 α')
      ⟨0, by omega, by omega, by simp, by simpa using hM, hf⟩ ?_
    rintro J3 hJ3 k t3 α3 ⟨i, rfl, hi, t52, hM, hf⟩
    by_cases ci : i < c.chans.length
    · have hfp := hF1.trans (hf.mono (by omega))
      obtain ⟨b, hb, bp⟩ := cld _ hfp
      obtain ⟨b1, b2, b3⟩ := bp i ci
      have e1 : IntKind.i64.wrap ((i : Int) + 1) = (i : Int) + 1 := w64 (by omega)
      have hx : Fr α1.n α1 (α3.alloc ⟨c.chans[i].enc, 36, true⟩) := hf.alloc hf.n _
      have hx' : Fr α.n α (α3.alloc ⟨c.chans[i].enc, 36, true⟩) := hfp.alloc (by have := hfp.n; omega) _
      simp only [Cn.enc] at hx hx' b2
      simp +contextual [t52, ci, cidx .i64 i ci, hb (by omega), b1, b2, aalloc, rb _ hx]
      refine (is_ok _ vp vc vt c _ (h0.fr hx')).mono fun r γ hr => ?_
      obtain ⟨rfl, hg⟩ := hr
      have hx2 := Fr.trans hx (hg.mono (by have := hf.n; simp; omega))
      have hx2' := Fr.trans hx' (hg.mono (by have := hfp.n; simp; omega))
      have g3 : γ.get α3.n = some ⟨c.chans[i].enc, 36, true⟩ := by rw [hg.get _ (by simp)]; exact AH.alloc_get _ _
      simp only [Cn.enc] at g3
      have hM2 := (hM.fr (Fr.alloc0 _ _)).fr hg
      have fin : ∀ (s' : AS) (γ : AH), s' 52 = .int .i64 ((i : Int) + 1) → MX α1.n γ (.slice ma c.parts.length mc) c.parts.length c.parts.length (depS c.parts.length ((c.chans.take i).foldl (depS c.parts.length) (dep0 c.parts)) c.chans[i]) → Fr α1.n α1 γ → agn J3 (c.chans.length - i) s' γ :=
        fun s' γ q1 q2 q3 => agn_mk (c.chans.length - (i + 1)) (by omega) (hJ3 _ _ _ ⟨i + 1, rfl, by omega, by simpa using q1, by rw [foldl_take _ _ _ ci]; exact q2, q3⟩)
      by_cases c1 : 0 ≤ c.chans[i].f ∧ c.chans[i].f < c.parts.length
      · simp +contextual [c1, rb _ hx2, g3]
        refine (is_ok _ vp vc vt c _ (h0.fr hx2')).mono fun r δ hr => ?_
        obtain ⟨rfl, hd⟩ := hr
        replace g3 := (hd.get α3.n (by have := hg.n; simp at this; omega)).trans g3
        have hx2 := Fr.trans hx2 (hd.mono hx2.n)
        have hM2 := hM2.fr hd
        by_cases c2 : 0 ≤ c.chans[i].t ∧ c.chans[i].t < c.parts.length
        · simp +contextual [c2]
          obtain ⟨x, hx0⟩ := Int.eq_ofNat_of_zero_le c1.1
          obtain ⟨y, hy0⟩ := Int.eq_ofNat_of_zero_le c2.1
          have hx1 : x < c.parts.length := by omega
          have hy1 : y < c.parts.length := by omega
          obtain ⟨o, cc, ro, id, ci', rr, kd, ck', rk, q1, q2, q3, q3', q4, q4', q5, q5', -, -, q7, q7', -, q8, q9⟩ := hM2.at2 hx1 hy1 hy1 hx1
          injection q1 with q1
          subst q1
          obtain ⟨rk', q8a, q8b, q8d, q8c⟩ := q8 true
          have hne : α3.n ≠ id := fun e => by rw [e, q4] at g3; cases g3
          have hno : o ≠ id := fun e => by rw [e, q4] at q2; cases q2
          have hS : depS c.parts.length ((c.chans.take i).foldl (depS c.parts.length) (dep0 c.parts)) c.chans[i] = upd2 (upd2 ((c.chans.take i).foldl (depS c.parts.length) (dep0 c.parts)) x y true) y x true := by
            rw [depS, if_pos ⟨c1, c2⟩, hx0, hy0]; rfl
          refine wdraw (tks [0, 0, 0, 0, 0, 0, 0, 0, 0, 0, 0, 0, 0, 1] (.pick (.cons 0 (.pick (.cons 0 (.take 0 (.pick (.cons 0 (.done) .nil))) .nil)) (.cons 1 (.take 0 (.take 0 (.pick (.cons 0 (.done) .nil)))) .nil)))) (by kernel_rfl) ?_
          simp +contextual [hx0, hy0, g3, hx1, hy1, q2, q3, q3', q4, q4', q5, q5', q8a, q8b, AH.set_get_ne, hne, t52, e1]
          exact fin _ _ (by simp) (by rw [hS]; exact q8c true) ((hx2.set q7 _).set q7' _)
        · simp +contextual [c2, t52, e1]
          exact fin _ _ (by simp) (by rw [depS, if_neg (fun h => c2 h.2)]; exact hM2) hx2
      · simp +contextual [c1, t52, e1]
        exact fin _ _ (by simp) (by rw [depS, if_neg (fun h => c1 h.1)]; exact hM2) hx2
    · have : i = c.chans.length := by omega
      subst this
      simp +contextual [t52]
      exact ⟨by simpa [depM] using hM.mono (by omega), hF1.trans (hf.mono (by omega))⟩

set_option maxRecDepth 100000 in
set_option maxHeartbeats 1000000 in
theorem sways_ok (vp vc vt : Value) (c : Cf) (α : AH) (h : IsCfg α (.agg #[vp, vc, vt]) c) (hl : c.parts.length ≤ 1000) (hlc : c.chans.length ≤ 1000000000) :
    NCalls Try.prog 18 [.agg #[vp, vc, vt]] α (fun v α' => MX α.n α' v c.parts.length c.parts.length (swM c) ∧ Fr α.n α α') := by
  have h0 := h
  obtain ⟨_, _, _, he, h1, h2, h3⟩ := h
  cases he
  obtain ⟨pid, poff, pl, pidx, pld⟩ := part_rd h1
  obtain ⟨cid, coff, cl, cidx, cld⟩ := h2.rdf (t := 23) Try.underlying23 sz36
  refine ncw mixd Try.func18 rfl Try.results18 (by kernel_rfl) ?_
  simp +contextual [h1.isCell, h2.isCell, h3.isCell, pl]
  have hF1 := Fr.alloc0 α ⟨[vp, vc, vt], 26, true⟩
  have hg1 := AH.alloc_get α ⟨[vp, vc, vt], 26, true⟩
  have hn1 := AH.alloc_n α ⟨[vp, vc, vt], 26, true⟩
  generalize α.alloc _ = α1 at *
  refine (square_ok _ hl _).mono fun m β hm => ?_
  obtain ⟨hM, hf⟩ := hm
  obtain ⟨ma, mc, rfl⟩ := hM.isSl
  simp +contextual
  have rb : ∀ γ, Fr α1.n α1 γ → γ.get α.n = some ⟨[vp, vc, vt], 26, true⟩ := fun γ hγ => by rw [hγ.get _ (by omega)]; exact hg1
  refine wlp [4, 5] 14 48 (by kernel_rfl) c.parts.length (fun k t α' => ∃ i, k = c.parts.length - i ∧ i ≤ c.parts.length ∧ t 14 = .int .i64 i ∧ MX α1.n α' (.slice ma c.parts.length mc) c.parts.length c.parts.length (fun a b => if a < i then sw0 c.parts a b else false) ∧ Fr α1.n α1 α')
    ⟨0, by omega, by omega, by simp, by simpa using hM, hf⟩ ?_
  rintro J hJ k t α2 ⟨i, rfl, hi, t14, hM, hf⟩
  by_cases ci : i < c.parts.length
  · have e1 : IntKind.i64.wrap ((i : Int) + 1) = (i : Int) + 1 := w64 (by omega)
    simp +contextual [t14, ci]
    refine wlp [5] 19 47 (by kernel_rfl) c.parts.length (fun k t α' => ∃ j, k = c.parts.length - j ∧ j ≤ c.parts.length ∧ t 19 = .int .i64 j ∧ MX α1.n α' (.slice ma c.parts.length mc) c.parts.length c.parts.length (fun a b => if a < i ∨ a = i ∧ b < j then sw0 c.parts a b else false) ∧ Fr α1.n α1 α')
      ⟨0, by omega, by omega, by simp, by simpa using hM, hf⟩ ?_
    rintro J2 hJ2 k t2 α3 ⟨j, rfl, hj, t19, hM, hf⟩
    by_cases cj : j < c.parts.length
    · simp +contextual [t14, t19, cj]
      refine wdraw (tks [0, 0, 0, 0, 0, 0, 0, 0, 0, 0, 0, 0, 0, 0, 0, 0, 0, 0, 0, 0, 0, 0, 0, 0, 0] (.pick (.cons 0 (.done) .nil))) (by kernel_rfl) ?_
      obtain ⟨o, cc, ro, id, ci', rr, q1, q2, q3, q4, q5, q6, q7, q8, -, -, q9⟩ := hM.at ci cj
      rw [if_neg (by omega)] at q6
      injection q1 with q1
      subst q1
      have hfp := hF1.trans (hf.mono (by omega))
      obtain ⟨b, hb, bp⟩ := pld _ hfp
      obtain ⟨_, _, _, _, _, _, -, -, -, -, -, -, -, si, zi, -⟩ := bp i ci
      obtain ⟨_, _, _, _, _, _, -, -, -, -, -, -, -, sj, -⟩ := bp j cj
      have fin : ∀ (s' : AS) (x : Bool), s' 19 = .int .i64 ((j : Int) + 1) → x = sw0 c.parts i j → agn J2 (c.parts.length - j) s' (α3.set id (some ⟨rr.set j (.bool x), 4, true⟩)) := fun s' x h1 h2 =>
        agn_mk (c.parts.length - (j + 1)) (by omega) (hJ2 _ _ _ ⟨j + 1, rfl, by omega, by simpa using h1, (q9 x).congr fun a b _ _ => by
          simp only [upd2]
          by_cases e : a = i ∧ b = j
          · rw [if_pos e, h2, if_pos (by omega), e.1, e.2]
          · rw [if_neg e]; congr 1; simp only [eq_iff_iff]; omega, hf.set q7 _⟩)
      have e2 : IntKind.i64.wrap ((j : Int) + 1) = (j : Int) + 1 := w64 (by omega)
      simp +contextual [t14, t19, rb _ hf, ci, cj, pidx .i64 i ci, pidx .i64 j cj, hb (by omega), si, zi, sj, q2, q3, q4, q5, q6, e2]
      repeat' refine both.mk (fun _ => ?_) (fun _ => ?_)
      all_goals exact fin _ _ (by simp) (by simp_all [sw0])
    · have : j = c.parts.length := by omega
      subst this
      simp +contextual [t14, t19, e1]
      refine agn_mk (c.parts.length - (i + 1)) (by omega) (hJ _ _ _ ⟨i + 1, rfl, by omega, by simp, hM.congr fun a b _ hb => ?_, hf⟩)
      congr 1
      simp only [eq_iff_iff]; omega
  · have : i = c.parts.length := by omega
    subst this
    have hM : MX α1.n α2 (.slice ma c.parts.length mc) c.parts.length c.parts.length (sw0 c.parts) := hM.congr fun a b ha _ => by rw [if_pos ha]
    simp +contextual [t14, rb _ hf, h2.isCell, cl]
    refine wlp [7] 52 95 (by kernel_rfl) c.chans.length (fun k t α' => ∃ i, k = c.chans.length - i ∧ i ≤ c.chans.length ∧ t 52 = .int .i64 i ∧ MX α1.n α' (.slice ma c.parts.length mc) c.parts.length c.parts.length ((c.chans.take i).foldl (swS c.parts.length) (sw0 c.parts)) ∧ Fr α1.n α1 α')
      ⟨0, by omega, by omega, by simp, by simpa using hM, hf⟩ ?_
    rintro J3 hJ3 k t3 α3 ⟨i, rfl, hi, t52, hM, hf⟩
    by_cases ci : i < c.chans.length
    · have hfp := hF1.trans (hf.mono (by omega))
      obtain ⟨b, hb, bp⟩ := cld _ hfp
      obtain ⟨b1, b2, b3⟩ := bp i ci
      have e1 : IntKind.i64.wrap ((i : Int) + 1) = (i : Int) + 1 := w64 (by omega)
      have hx : Fr α1.n α1 (α3.alloc ⟨c.chans[i].enc, 36, true⟩) := hf.alloc hf.n _
      have hx' : Fr α.n α (α3.alloc ⟨c.chans[i].enc, 36, true⟩) := hfp.alloc (by have := hfp.n; omega) _
      simp only [Cn.enc] at hx hx' b2
      simp +contextual [t52, ci, cidx .i64 i ci, hb (by omega), b1, b2, aalloc, rb _ hx]
      refine (is_ok _ vp vc vt c _ (h0.fr hx')).mono fun r γ hr => ?_
      obtain ⟨rfl, hg⟩ := hr
      have hx2 := Fr.trans hx (hg.mono (by have := hf.n; simp; omega))
      have hx2' := Fr.trans hx' (hg.mono (by have := hfp.n; simp; omega))
      have g3 : γ.get α3.n = some ⟨c.chans[i].enc, 36, true⟩ := by rw [hg.get _ (by simp)]; exact AH.alloc_get _ _
      simp only [Cn.enc] at g3
      have hM2 := (hM.fr (Fr.alloc0 _ _)).fr hg
      have fin : ∀ (s' : AS) (γ : AH), s' 52 = .int .i64 ((i : Int) + 1) → MX α1.n γ (.slice ma c.parts.length mc) c.parts.length c.parts.length (swS c.parts.length ((c.chans.take i).foldl (swS c.parts.length) (sw0 c.parts)) c.chans[i]) → Fr α1.n α1 γ → agn J3 (c.chans.length - i) s' γ :=
        fun s' γ q1 q2 q3 => agn_mk (c.chans.length - (i + 1)) (by omega) (hJ3 _ _ _ ⟨i + 1, rfl, by omega, by simpa using q1, by rw [foldl_take _ _ _ ci]; exact q2, q3⟩)
      by_cases c1 : 0 ≤ c.chans[i].f ∧ c.chans[i].f < c.parts.length
      · simp +contextual [c1, rb _ hx2, g3]
        refine (is_ok _ vp vc vt c _ (h0.fr hx2')).mono fun r δ hr => ?_
        obtain ⟨rfl, hd⟩ := hr
        replace g3 := (hd.get α3.n (by have := hg.n; simp at this; omega)).trans g3
        have hx2 := Fr.trans hx2 (hd.mono hx2.n)
        have hM2 := hM2.fr hd
        by_cases c2 : 0 ≤ c.chans[i].t ∧ c.chans[i].t < c.parts.length
        · simp +contextual [c2]
          obtain ⟨x, hx0⟩ := Int.eq_ofNat_of_zero_le c1.1
          obtain ⟨y, hy0⟩ := Int.eq_ofNat_of_zero_le c2.1
          have hx1 : x < c.parts.length := by omega
          have hy1 : y < c.parts.length := by omega
          obtain ⟨o, cc, ro, id, ci', rr, kd, ck', rk, q1, q2, q3, q3', q4, q4', q5, q5', -, -, q7, q7', -, q8, q9⟩ := hM2.at2 hx1 hy1 hy1 hx1
          injection q1 with q1
          subst q1
          obtain ⟨rk', q8a, q8b, q8d, q8c⟩ := q8 true
          have hne : α3.n ≠ id := fun e => by rw [e, q4] at g3; cases g3
          have hno : o ≠ id := fun e => by rw [e, q4] at q2; cases q2
          have hS : swS c.parts.length ((c.chans.take i).foldl (swS c.parts.length) (sw0 c.parts)) c.chans[i] = upd2 (upd2 ((c.chans.take i).foldl (swS c.parts.length) (sw0 c.parts)) x y true) y x (upd2 ((c.chans.take i).foldl (swS c.parts.length) (sw0 c.parts)) x y true y x || c.chans[i].q) := by
            rw [swS, if_pos ⟨c1, c2⟩, hx0, hy0]; rfl
          refine wdraw (tks [0, 0, 0, 0, 0, 0, 0, 0] (.pick (.cons 0 (.done) .nil))) (by kernel_rfl) ?_
          simp +contextual [hx0, hy0, g3, hx1, hy1, q2, q3, q4, q5]
          refine wdraw (tks [0, 0, 0, 0, 0, 0, 0, 0, 0, 0, 0, 0, 0, 0, 0, 0, 0, 0, 0, 0, 0] (.pick (.cons 0 (.done) .nil))) (by kernel_rfl) ?_
          generalize hgx : upd2 ((c.chans.take i).foldl (swS c.parts.length) (sw0 c.parts)) x y true = gx at *
          simp +contextual [hx0, hy0, g3, hx1, hy1, q2, q3', q8a, q8b, q8d, AH.set_get_ne, hne, hno, t52, e1]
          repeat' refine both.mk (fun _ => ?_) (fun _ => ?_)
          all_goals exact fin _ _ (by simp) (by rw [hS]; exact (q8c _).congr fun a b _ _ => by simp only [upd2]; split <;> simp_all) ((hx2.set q7 _).set q7' _)
        · simp +contextual [c2, t52, e1]
          exact fin _ _ (by simp) (by rw [swS, if_neg (fun h => c2 h.2)]; exact hM2) hx2
      · simp +contextual [c1, t52, e1]
        exact fin _ _ (by simp) (by rw [swS, if_neg (fun h => c1 h.1)]; exact hM2) hx2
    · have : i = c.chans.length := by omega
      subst this
      simp +contextual [t52]
      exact ⟨by simpa [swM] using hM.mono (by omega), hF1.trans (hf.mono (by omega))⟩

set_option maxRecDepth 100000 in
set_option maxHeartbeats 1000000 in
theorem rdepends_ok (vp vc vt : Value) (c : Cf) (α : AH) (h : IsCfg α (.agg #[vp, vc, vt]) c) (hl : c.parts.length ≤ 1000) (hlc : c.chans.length ≤ 1000000000) :
    NCalls Try.prog 36 [.agg #[vp, vc, vt]] α (fun v α' => MX α.n α' v c.parts.length c.parts.length (depM c) ∧ Fr α.n α α') := by
  have h0 := h
  obtain ⟨_, _, _, he, h1, h2, h3⟩ := h
  cases he
  obtain ⟨pid, poff, pl, pidx, pld⟩ := part_rd h1
  obtain ⟨cid, coff, cl, cidx, cld⟩ := h2.rdf (t := 23) Try.underlying23 sz36
  refine ncw mixd Try.func36 rfl Try.results36 (by kernel_rfl) ?_
  simp +contextual [h1.isCell, h2.isCell, h3.isCell, pl]
  have hF1 := Fr.alloc0 α ⟨[vp, vc, vt], 26, true⟩
  have hg1 := AH.alloc_get α ⟨[vp, vc, vt], 26, true⟩
  have hn1 := AH.alloc_n α ⟨[vp, vc, vt], 26, true⟩
  generalize α.alloc _ = α1 at *
  refine (rsquare_ok _ hl _).mono fun m β hm => ?_
  obtain ⟨hM, hf⟩ := hm
  obtain ⟨ma, mc, rfl⟩ := hM.isSl
  simp +contextual
  have rb : ∀ γ, Fr α1.n α1 γ → γ.get α.n = some ⟨[vp, vc, vt], 26, true⟩ := fun γ hγ => by rw [hγ.get _ (by omega)]; exact hg1
  refine wlp [4, 5] 14 52 (by kernel_rfl) c.parts.length (fun k t α' => ∃ i, k = c.parts.length - i ∧ i ≤ c.parts.length ∧ t 14 = .int .i64 i ∧ MX α1.n α' (.slice ma c.parts.length mc) c.parts.length c.parts.length (fun a b => if a < i then dep0 c.parts a b else decide (a = b)) ∧ Fr α1.n α1 α')
    ⟨0, by omega, by omega, by simp, by simpa using hM, hf⟩ ?_
  rintro J hJ k t α2 ⟨i, rfl, hi, t14, hM, hf⟩
  by_cases ci : i < c.parts.length
  · have e1 : IntKind.i64.wrap ((i : Int) + 1) = (i : Int) + 1 := w64 (by omega)
    simp +contextual [t14, ci]
    refine wlp [5] 19 51 (by kernel_rfl) c.parts.length (fun k t α' => ∃ j, k = c.parts.length - j ∧ j ≤ c.parts.length ∧ t 19 = .int .i64 j ∧ MX α1.n α' (.slice ma c.parts.length mc) c.parts.length c.parts.length (fun a b => if a < i ∨ a = i ∧ b < j then dep0 c.parts a b else decide (a = b)) ∧ Fr α1.n α1 α')
      ⟨0, by omega, by omega, by simp, by simpa using hM, hf⟩ ?_
    rintro J2 hJ2 k t2 α3 ⟨j, rfl, hj, t19, hM, hf⟩
    by_cases cj : j < c.parts.length
    · simp +contextual [t14, t19, cj]
      refine wdraw (tks [0, 0, 0, 0, 0, 0, 0, 0, 0, 0, 0, 0, 0, 0, 0, 0, 0, 0, 0, 0, 0, 0, 0, 0, 0, 0, 0, 0, 0] (.pick (.cons 0 (.done) .nil))) (by kernel_rfl) ?_
      obtain ⟨o, cc, ro, id, ci', rr, q1, q2, q3, q4, q5, q6, q7, q8, -, -, q9⟩ := hM.at ci cj
      rw [if_neg (by omega)] at q6
      injection q1 with q1
      subst q1
      have hfp := hF1.trans (hf.mono (by omega))
      obtain ⟨b, hb, bp⟩ := pld _ hfp
      obtain ⟨_, _, _, _, _, _, -, -, -, -, -, -, -, si, zi, -⟩ := bp i ci
      obtain ⟨_, _, _, _, _, _, -, -, -, -, -, -, -, sj, -⟩ := bp j cj
      have fin : ∀ (s' : AS) (x : Bool), s' 19 = .int .i64 ((j : Int) + 1) → x = dep0 c.parts i j → agn J2 (c.parts.length - j) s' (α3.set id (some ⟨rr.set j (.bool x), 4, true⟩)) := fun s' x h1 h2 =>
        agn_mk (c.parts.length - (j + 1)) (by omega) (hJ2 _ _ _ ⟨j + 1, rfl, by omega, by simpa using h1, (q9 x).congr fun a b _ _ => by
          simp only [upd2]
          by_cases e : a = i ∧ b = j
          · rw [if_pos e, h2, if_pos (by omega), e.1, e.2]
          · rw [if_neg e]; congr 1; simp only [eq_iff_iff]; omega, hf.set q7 _⟩)
      have e2 : IntKind.i64.wrap ((j : Int) + 1) = (j : Int) + 1 := w64 (by omega)
      simp +contextual [t14, t19, rb _ hf, ci, cj, pidx .i64 i ci, pidx .i64 j cj, hb (by omega), si, zi, sj, q2, q3, q4, q5, q6, e2]
      repeat' refine both.mk (fun _ => ?_) (fun _ => ?_)
      all_goals exact fin _ _ (by simp) (by simp_all [dep0])
    · have : j = c.parts.length := by omega
      subst this
      simp +contextual [t14, t19, e1]
      refine agn_mk (c.parts.length - (i + 1)) (by omega) (hJ _ _ _ ⟨i + 1, rfl, by omega, by simp, hM.congr fun a b _ hb => ?_, hf⟩)
      congr 1
      simp only [eq_iff_iff]; omega
  · have : i = c.parts.length := by omega
    subst this
    have hM : MX α1.n α2 (.slice ma c.parts.length mc) c.parts.length c.parts.length (dep0 c.parts) := hM.congr fun a b ha _ => by rw [if_pos ha]
    simp +contextual [t14, rb _ hf, h2.isCell, cl]
    refine wlp [7] 56 86 (by kernel_rfl) c.chans.length (fun k t α' => ∃ i, k = c.chans.length - i ∧ i ≤ c.chans.length ∧ t 56 = .int .i64 i ∧ MX α1.n α' (.slice ma c.parts.length mc) c.parts.length c.parts.length ((c.chans.take i).foldl (depS c.parts.length) (dep0 c.parts)) ∧ Fr α1.n α1 α')
      ⟨0, by omega, by omega, by simp, by simpa using hM, hf⟩ ?_
    rintro J3 hJ3 k t3 α3 ⟨i, rfl, hi, t52, hM, hf⟩
    by_cases ci : i < c.chans.length
    · have hfp := hF1.trans (hf.mono (by omega))
      obtain ⟨b, hb, bp⟩ := cld _ hfp
      obtain ⟨b1, b2, b3⟩ := bp i ci
      have e1 : IntKind.i64.wrap ((i : Int) + 1) = (i : Int) + 1 := w64 (by omega)
      have hx : Fr α1.n α1 (α3.alloc ⟨c.chans[i].enc, 36, true⟩) := hf.alloc hf.n _
      have hx' : Fr α.n α (α3.alloc ⟨c.chans[i].enc, 36, true⟩) := hfp.alloc (by have := hfp.n; omega) _
      simp only [Cn.enc] at hx hx' b2
      simp +contextual [t52, ci, cidx .i64 i ci, hb (by omega), b1, b2, aalloc, rb _ hx]
      refine (in_ok _ vp vc vt c _ (h0.fr hx')).mono fun r γ hr => ?_
      obtain ⟨rfl, hg⟩ := hr
      have hx2 := Fr.trans hx (hg.mono (by have := hf.n; simp; omega))
      have hx2' := Fr.trans hx' (hg.mono (by have := hfp.n; simp; omega))
      have g3 : γ.get α3.n = some ⟨c.chans[i].enc, 36, true⟩ := by rw [hg.get _ (by simp)]; exact AH.alloc_get _ _
      simp only [Cn.enc] at g3
      have hM2 := (hM.fr (Fr.alloc0 _ _)).fr hg
      have fin : ∀ (s' : AS) (γ : AH), s' 56 = .int .i64 ((i : Int) + 1) → MX α1.n γ (.slice ma c.parts.length mc) c.parts.length c.parts.length (depS c.parts.length ((c.chans.take i).foldl (depS c.parts.length) (dep0 c.parts)) c.chans[i]) → Fr α1.n α1 γ → agn J3 (c.chans.length - i) s' γ :=
        fun s' γ q1 q2 q3 => agn_mk (c.chans.length - (i + 1)) (by omega) (hJ3 _ _ _ ⟨i + 1, rfl, by omega, by simpa using q1, by rw [foldl_take _ _ _ ci]; exact q2, q3⟩)
      by_cases c1 : 0 ≤ c.chans[i].f ∧ c.chans[i].f < c.parts.length
      · simp +contextual [c1, rb _ hx2, g3]
        refine (in_ok _ vp vc vt c _ (h0.fr hx2')).mono fun r δ hr => ?_
        obtain ⟨rfl, hd⟩ := hr
        replace g3 := (hd.get α3.n (by have := hg.n; simp at this; omega)).trans g3
        have hx2 := Fr.trans hx2 (hd.mono hx2.n)
        have hM2 := hM2.fr hd
        by_cases c2 : 0 ≤ c.chans[i].t ∧ c.chans[i].t < c.parts.length
        · simp +contextual [c2]
          obtain ⟨x, hx0⟩ := Int.eq_ofNat_of_zero_le c1.1
          obtain ⟨y, hy0⟩ := Int.eq_ofNat_of_zero_le c2.1
          have hx1 : x < c.parts.length := by omega
          have hy1 : y < c.parts.length := by omega
          obtain ⟨o, cc, ro, id, ci', rr, kd, ck', rk, q1, q2, q3, q3', q4, q4', q5, q5', -, -, q7, q7', -, q8, q9⟩ := hM2.at2 hx1 hy1 hy1 hx1
          injection q1 with q1
          subst q1
          obtain ⟨rk', q8a, q8b, q8d, q8c⟩ := q8 true
          have hne : α3.n ≠ id := fun e => by rw [e, q4] at g3; cases g3
          have hno : o ≠ id := fun e => by rw [e, q4] at q2; cases q2
          have hS : depS c.parts.length ((c.chans.take i).foldl (depS c.parts.length) (dep0 c.parts)) c.chans[i] = upd2 (upd2 ((c.chans.take i).foldl (depS c.parts.length) (dep0 c.parts)) x y true) y x true := by
            rw [depS, if_pos ⟨c1, c2⟩, hx0, hy0]; rfl
          refine wdraw (tks [0, 0, 0, 0, 0, 0, 0, 0, 0, 0, 0, 0, 0, 1] (.pick (.cons 0 (.pick (.cons 0 (.take 0 (.pick (.cons 0 (.done) .nil))) .nil)) (.cons 1 (.take 0 (.take 0 (.pick (.cons 0 (.done) .nil)))) .nil)))) (by kernel_rfl) ?_
          simp +contextual [hx0, hy0, g3, hx1, hy1, q2, q3, q3', q4, q4', q5, q5', q8a, q8b, AH.set_get_ne, hne, t52, e1]
          exact fin _ _ (by simp) (by rw [hS]; exact q8c true) ((hx2.set q7 _).set q7' _)
        · simp +contextual [c2, t52, e1]
          exact fin _ _ (by simp) (by rw [depS, if_neg (fun h => c2 h.2)]; exact hM2) hx2
      · simp +contextual [c1, t52, e1]
        exact fin _ _ (by simp) (by rw [depS, if_neg (fun h => c1 h.1)]; exact hM2) hx2
    · have : i = c.chans.length := by omega
      subst this
      simp +contextual [t52]
      exact ⟨by simpa [depM] using hM.mono (by omega), hF1.trans (hf.mono (by omega))⟩

set_option maxRecDepth 100000 in
set_option maxHeartbeats 1000000 in
theorem rsways_ok (vp vc vt : Value) (c : Cf) (α : AH) (h : IsCfg α (.agg #[vp, vc, vt]) c) (hl : c.parts.length ≤ 1000) (hlc : c.chans.length ≤ 1000000000) :
    NCalls Try.prog 37 [.agg #[vp, vc, vt]] α (fun v α' => MX α.n α' v c.parts.length c.parts.length (swM c) ∧ Fr α.n α α') := by
  have h0 := h
  obtain ⟨_, _, _, he, h1, h2, h3⟩ := h
  cases he
  obtain ⟨pid, poff, pl, pidx, pld⟩ := part_rd h1
  obtain ⟨cid, coff, cl, cidx, cld⟩ := h2.rdf (t := 23) Try.underlying23 sz36
  refine ncw mixd Try.func37 rfl Try.results37 (by kernel_rfl) ?_
  simp +contextual [h1.isCell, h2.isCell, h3.isCell, pl]
  have hF1 := Fr.alloc0 α ⟨[vp, vc, vt], 26, true⟩
  have hg1 := AH.alloc_get α ⟨[vp, vc, vt], 26, true⟩
  have hn1 := AH.alloc_n α ⟨[vp, vc, vt], 26, true⟩
  generalize α.alloc _ = α1 at *
  refine (rsquare_ok _ hl _).mono fun m β hm => ?_
  obtain ⟨hM, hf⟩ := hm
  obtain ⟨ma, mc, rfl⟩ := hM.isSl
  simp +contextual
  have rb : ∀ γ, Fr α1.n α1 γ → γ.get α.n = some ⟨[vp, vc, vt], 26, true⟩ := fun γ hγ => by rw [hγ.get _ (by omega)]; exact hg1
  refine wlp [4, 5] 14 52 (by kernel_rfl) c.parts.length (fun k t α' => ∃ i, k = c.parts.length - i ∧ i ≤ c.parts.length ∧ t 14 = .int .i64 i ∧ MX α1.n α' (.slice ma c.parts.length mc) c.parts.length c.parts.length (fun a b => if a < i then sw0 c.parts a b else decide (a = b)) ∧ Fr α1.n α1 α')
    ⟨0, by omega, by omega, by simp, by simpa using hM, hf⟩ ?_
  rintro J hJ k t α2 ⟨i, rfl, hi, t14, hM, hf⟩
  by_cases ci : i < c.parts.length
  · have e1 : IntKind.i64.wrap ((i : Int) + 1) = (i : Int) + 1 := w64 (by omega)
    simp +contextual [t14, ci]
    refine wlp [5] 19 51 (by kernel_rfl) c.parts.length (fun k t α' => ∃ j, k = c.parts.length - j ∧ j ≤ c.parts.length ∧ t 19 = .int .i64 j ∧ MX α1.n α' (.slice ma c.parts.length mc) c.parts.length c.parts.length (fun a b => if a < i ∨ a = i ∧ b < j then sw0 c.parts a b else decide (a = b)) ∧ Fr α1.n α1 α')
      ⟨0, by omega, by omega, by simp, by simpa using hM, hf⟩ ?_
    rintro J2 hJ2 k t2 α3 ⟨j, rfl, hj, t19, hM, hf⟩
    by_cases cj : j < c.parts.length
    · simp +contextual [t14, t19, cj]
      refine wdraw (tks [0, 0, 0, 0, 0, 0, 0, 0, 0, 0, 0, 0, 0, 0, 0, 0, 0, 0, 0, 0, 0, 0, 0, 0, 0, 0, 0, 0, 0] (.pick (.cons 0 (.done) .nil))) (by kernel_rfl) ?_
      obtain ⟨o, cc, ro, id, ci', rr, q1, q2, q3, q4, q5, q6, q7, q8, -, -, q9⟩ := hM.at ci cj
      rw [if_neg (by omega)] at q6
      injection q1 with q1
      subst q1
      have hfp := hF1.trans (hf.mono (by omega))
      obtain ⟨b, hb, bp⟩ := pld _ hfp
      obtain ⟨_, _, _, _, _, _, -, -, -, -, -, -, -, si, zi, -⟩ := bp i ci
      obtain ⟨_, _, _, _, _, _, -, -, -, -, -, -, -, sj, -⟩ := bp j cj
      have fin : ∀ (s' : AS) (x : Bool), s' 19 = .int .i64 ((j : Int) + 1) → x = sw0 c.parts i j → agn J2 (c.parts.length - j) s' (α3.set id (some ⟨rr.set j (.bool x), 4, true⟩)) := fun s' x h1 h2 =>
        agn_mk (c.parts.length - (j + 1)) (by omega) (hJ2 _ _ _ ⟨j + 1, rfl, by omega, by simpa using h1, (q9 x).congr fun a b _ _ => by
          simp only [upd2]
          by_cases e : a = i ∧ b = j
          · rw [if_pos e, h2, if_pos (by omega), e.1, e.2]
          · rw [if_neg e]; congr 1; simp only [eq_iff_iff]; omega, hf.set q7 _⟩)
      have e2 : IntKind.i64.wrap ((j : Int) + 1) = (j : Int) + 1 := w64 (by omega)
      simp +contextual [t14, t19, rb _ hf, ci, cj, pidx .i64 i ci, pidx .i64 j cj, hb (by omega), si, zi, sj, q2, q3, q4, q5, q6, e2]
      repeat' refine both.mk (fun _ => ?_) (fun _ => ?_)
      all_goals exact fin _ _ (by simp) (by simp_all [sw0])
    · have : j = c.parts.length := by omega
      subst this
      simp +contextual [t14, t19, e1]
      refine agn_mk (c.parts.length - (i + 1)) (by omega) (hJ _ _ _ ⟨i + 1, rfl, by omega, by simp, hM.congr fun a b _ hb => ?_, hf⟩)
      congr 1
      simp only [eq_iff_iff]; omega
  · have : i = c.parts.length := by omega
    subst this
    have hM : MX α1.n α2 (.slice ma c.parts.length mc) c.parts.length c.parts.length (sw0 c.parts) := hM.congr fun a b ha _ => by rw [if_pos ha]
    simp +contextual [t14, rb _ hf, h2.isCell, cl]
    refine wlp [7] 56 99 (by kernel_rfl) c.chans.length (fun k t α' => ∃ i, k = c.chans.length - i ∧ i ≤ c.chans.length ∧ t 56 = .int .i64 i ∧ MX α1.n α' (.slice ma c.parts.length mc) c.parts.length c.parts.length ((c.chans.take i).foldl (swS c.parts.length) (sw0 c.parts)) ∧ Fr α1.n α1 α')
      ⟨0, by omega, by omega, by simp, by simpa using hM, hf⟩ ?_
    rintro J3 hJ3 k t3 α3 ⟨i, rfl, hi, t52, hM, hf⟩
    by_cases ci : i < c.chans.length
    · have hfp := hF1.trans (hf.mono (by omega))
      obtain ⟨b, hb, bp⟩ := cld _ hfp
      obtain ⟨b1, b2, b3⟩ := bp i ci
      have e1 : IntKind.i64.wrap ((i : Int) + 1) = (i : Int) + 1 := w64 (by omega)
      have hx : Fr α1.n α1 (α3.alloc ⟨c.chans[i].enc, 36, true⟩) := hf.alloc hf.n _
      have hx' : Fr α.n α (α3.alloc ⟨c.chans[i].enc, 36, true⟩) := hfp.alloc (by have := hfp.n; omega) _
      simp only [Cn.enc] at hx hx' b2
      simp +contextual [t52, ci, cidx .i64 i ci, hb (by omega), b1, b2, aalloc, rb _ hx]
      refine (in_ok _ vp vc vt c _ (h0.fr hx')).mono fun r γ hr => ?_
      obtain ⟨rfl, hg⟩ := hr
      have hx2 := Fr.trans hx (hg.mono (by have := hf.n; simp; omega))
      have hx2' := Fr.trans hx' (hg.mono (by have := hfp.n; simp; omega))
      have g3 : γ.get α3.n = some ⟨c.chans[i].enc, 36, true⟩ := by rw [hg.get _ (by simp)]; exact AH.alloc_get _ _
      simp only [Cn.enc] at g3
      have hM2 := (hM.fr (Fr.alloc0 _ _)).fr hg
      have fin : ∀ (s' : AS) (γ : AH), s' 56 = .int .i64 ((i : Int) + 1) → MX α1.n γ (.slice ma c.parts.length mc) c.parts.length c.parts.length (swS c.parts.length ((c.chans.take i).foldl (swS c.parts.length) (sw0 c.parts)) c.chans[i]) → Fr α1.n α1 γ → agn J3 (c.chans.length - i) s' γ :=
        fun s' γ q1 q2 q3 => agn_mk (c.chans.length - (i + 1)) (by omega) (hJ3 _ _ _ ⟨i + 1, rfl, by omega, by simpa using q1, by rw [foldl_take _ _ _ ci]; exact q2, q3⟩)
      by_cases c1 : 0 ≤ c.chans[i].f ∧ c.chans[i].f < c.parts.length
      · simp +contextual [c1, rb _ hx2, g3]
        refine (in_ok _ vp vc vt c _ (h0.fr hx2')).mono fun r δ hr => ?_
        obtain ⟨rfl, hd⟩ := hr
        replace g3 := (hd.get α3.n (by have := hg.n; simp at this; omega)).trans g3
        have hx2 := Fr.trans hx2 (hd.mono hx2.n)
        have hM2 := hM2.fr hd
        by_cases c2 : 0 ≤ c.chans[i].t ∧ c.chans[i].t < c.parts.length
        · simp +contextual [c2]
          obtain ⟨x, hx0⟩ := Int.eq_ofNat_of_zero_le c1.1
          obtain ⟨y, hy0⟩ := Int.eq_ofNat_of_zero_le c2.1
          have hx1 : x < c.parts.length := by omega
          have hy1 : y < c.parts.length := by omega
          obtain ⟨o, cc, ro, id, ci', rr, kd, ck', rk, q1, q2, q3, q3', q4, q4', q5, q5', -, -, q7, q7', -, q8, q9⟩ := hM2.at2 hx1 hy1 hy1 hx1
          injection q1 with q1
          subst q1
          obtain ⟨rk', q8a, q8b, q8d, q8c⟩ := q8 true
          have hne : α3.n ≠ id := fun e => by rw [e, q4] at g3; cases g3
          have hno : o ≠ id := fun e => by rw [e, q4] at q2; cases q2
          have hS : swS c.parts.length ((c.chans.take i).foldl (swS c.parts.length) (sw0 c.parts)) c.chans[i] = upd2 (upd2 ((c.chans.take i).foldl (swS c.parts.length) (sw0 c.parts)) x y true) y x (upd2 ((c.chans.take i).foldl (swS c.parts.length) (sw0 c.parts)) x y true y x || c.chans[i].q) := by
            rw [swS, if_pos ⟨c1, c2⟩, hx0, hy0]; rfl
          refine wdraw (tks [0, 0, 0, 0, 0, 0, 0, 0] (.pick (.cons 0 (.done) .nil))) (by kernel_rfl) ?_
          simp +contextual [hx0, hy0, g3, hx1, hy1, q2, q3, q4, q5]
          refine wdraw (tks [0, 0, 0, 0, 0, 0, 0, 0, 0, 0, 0, 0, 0, 0, 0, 0, 0, 0, 0, 0, 0] (.pick (.cons 0 (.done) .nil))) (by kernel_rfl) ?_
          generalize hgx : upd2 ((c.chans.take i).foldl (swS c.parts.length) (sw0 c.parts)) x y true = gx at *
          simp +contextual [hx0, hy0, g3, hx1, hy1, q2, q3', q8a, q8b, q8d, AH.set_get_ne, hne, hno, t52, e1]
          repeat' refine both.mk (fun _ => ?_) (fun _ => ?_)
          all_goals exact fin _ _ (by simp) (by rw [hS]; exact (q8c _).congr fun a b _ _ => by simp only [upd2]; split <;> simp_all) ((hx2.set q7 _).set q7' _)
        · simp +contextual [c2, t52, e1]
          exact fin _ _ (by simp) (by rw [swS, if_neg (fun h => c2 h.2)]; exact hM2) hx2
      · simp +contextual [c1, t52, e1]
        exact fin _ _ (by simp) (by rw [swS, if_neg (fun h => c1 h.1)]; exact hM2) hx2
    · have : i = c.chans.length := by omega
      subst this
      simp +contextual [t52]
      exact ⟨by simpa [swM] using hM.mono (by omega), hF1.trans (hf.mono (by omega))⟩
end Go.Proofs.Ytggkeldedennfaa
