/- Parts of this proof, joined: Gb, Gc, Gd, Ge, Ha, Hb, Hc, Hd, He, Hf, Rk, Sa, Sb, Sc, Sd. -/
import Derived.Test.YtggkeldedennfaaRows
import Derived.WalkKit
import Derived.ProofKit
import Derived.OpenShut
import Derived.ShutString
import Derived.ChangeOld
import Derived.SizedLaws
import Derived.ChangeSlices
import Derived.Test.YtggkeldedennfaaMrdc

set_option linter.unusedVariables false
set_option linter.unusedSimpArgs false
namespace Go.Proofs.Ytggkeldedennfaa
open Go Go.RowKit Go.Lay Go.Nod

set_option maxRecDepth 100000 in
set_option maxHeartbeats 1000000 in
theorem depends_ok (vp vc vt : Value) (c : Cf) (α : AH) (h : IsCfg α (.agg #[vp, vc, vt]) c) (hl : c.parts.length ≤ 1000) (hlc : c.chans.length ≤ 1000000000) :
    NCalls Try.prog 17 [.agg #[vp, vc, vt]] α (fun v α' => MX α.n α' v c.parts.length c.parts.length (depM c) ∧ Fr α.n α α') := by
  have h0 := h
  obtain ⟨_, _, _, he, h1, h2, h3⟩ := h
  cases he
  obtain ⟨pid, poff, pl, pidx, pld⟩ := part_rd h1
  obtain ⟨cid, coff, cl, cidx, cld⟩ := h2.rdf (t := 23) Try.underlying23 sz36
  refine ncw mixd Try.func17 rfl Try.results17 (by kernel_rfl) ?_
  simp +contextual [h1.isCell, h2.isCell, h3.isCell, pl]
  have hF1 := Fr.alloc0 α ⟨[vp, vc, vt], 26, true⟩
  have hg1 := AH.alloc_get α ⟨[vp, vc, vt], 26, true⟩
  have hn1 := AH.alloc_n α ⟨[vp, vc, vt], 26, true⟩
  generalize α.alloc _ = α1 at *
  refine (square_ok _ hl _).mono fun m β hm => ?_
  obtain ⟨hM, hf⟩ := hm
  obtain ⟨ma, mc, rfl⟩ := hM.isSl
  simp +contextual
  have rb : ∀ γ, Fr α1.n α1 γ → γ.get α.n = some ⟨[vp, vc, vt], 26, true⟩ := fun γ hγ => by rw [hγ.get _ (by omega)]; exact hg1
  refine wlp [4, 5] 14 48 (by kernel_rfl) c.parts.length (fun k t α' => ∃ i, k = c.parts.length - i ∧ i ≤ c.parts.length ∧ t 14 = .int .i64 i ∧ MX α1.n α' (.slice ma c.parts.length mc) c.parts.length c.parts.length (fun a b => if a < i then dep0 c.parts a b else false) ∧ Fr α1.n α1 α')
    ⟨0, by omega, by omega, by simp, by simpa using hM, hf⟩ ?_
  rintro J hJ k t α2 ⟨i, rfl, hi, t14, hM, hf⟩
  by_cases ci : i < c.parts.length
  · have e1 : IntKind.i64.wrap ((i : Int) + 1) = (i : Int) + 1 := w64 (by omega)
    simp +contextual [t14, ci]
    refine wlp [5] 19 47 (by kernel_rfl) c.parts.length (fun k t α' => ∃ j, k = c.parts.length - j ∧ j ≤ c.parts.length ∧ t 19 = .int .i64 j ∧ MX α1.n α' (.slice ma c.parts.length mc) c.parts.length c.parts.length (fun a b => if a < i ∨ a = i ∧ b < j then dep0 c.parts a b else false) ∧ Fr α1.n α1 α')
      ⟨0, by omega, by omega, by simp, by simpa using hM, hf⟩ ?_
    rintro J2 hJ2 k t2 α3 ⟨j, rfl, hj, t19, hM, hf⟩
    by_cases cj : j < c.parts.length
    · simp +contextual [t14, t19, cj]
      refine wdraw (tks [0, 0, 0, 0, 0, 0, 0, 0, 0, 0, 0, 0, 0, 0, 0, 0, 0, 0, 0, 0, 0, 0, 0, 0, 0] (.pick (.cons 0 (.done) .nil))) (by kernel_rfl) ?_
      obtain ⟨o, cc, ro, id, ci', rr, q1, q2, q3, q4, q5, q6, q7, q8, -, -, q9⟩ := hM.at ci cj
      rw [if_neg (by omega)] at q6
      injection q1 with q1
      subst q1
      have hfp := hF1.trans (hf.mono (by omega))
      obtain ⟨b, hb, bp⟩ := pld _ hfp
      obtain ⟨_, _, _, _, _, _, -, -, -, -, -, -, -, si, zi, -⟩ := bp i ci
      obtain ⟨_, _, _, _, _, _, -, -, -, -, -, -, -, sj, -⟩ := bp j cj
      have fin : ∀ (s' : AS) (x : Bool), s' 19 = .int .i64 ((j : Int) + 1) → x = dep0 c.parts i j → agn J2 (c.parts.length - j) s' (α3.set id (some ⟨rr.set j (.bool x), 4, true⟩)) := fun s' x h1 h2 =>
        agn_mk (c.parts.length - (j + 1)) (by omega) (hJ2 _ _ _ ⟨j + 1, rfl, by omega, by simpa using h1, (q9 x).congr fun a b _ _ => by
          simp only [upd2]
          by_cases e : a = i ∧ b = j
          · rw [if_pos e, h2, if_pos (by omega), e.1, e.2]
          · rw [if_neg e]; congr 1; simp only [eq_iff_iff]; omega, hf.set q7 _⟩)
      have e2 : IntKind.i64.wrap ((j : Int) + 1) = (j : Int) + 1 := w64 (by omega)
      simp +contextual [t14, t19, rb _ hf, ci, cj, pidx .i64 i ci, pidx .i64 j cj, hb (by omega), si, zi, sj, q2, q3, q4, q5, q6, e2]
      repeat' refine both.mk (fun _ => ?_) (fun _ => ?_)
      all_goals exact fin _ _ (by simp) (by simp_all [dep0])
    · have : j = c.parts.length := by omega
      subst this
      simp +contextual [t14, t19, e1]
      refine agn_mk (c.parts.length - (i + 1)) (by omega) (hJ _ _ _ ⟨i + 1, rfl, by omega, by simp, hM.congr fun a b _ hb => ?_, hf⟩)
      congr 1
      simp only [eq_iff_iff]; omega
  · have : i = c.parts.length := by omega
    subst this
    have hM : MX α1.n α2 (.slice ma c.parts.length mc) c.parts.length c.parts.length (dep0 c.parts) := hM.congr fun a b ha _ => by rw [if_pos ha]
    simp +contextual [t14, rb _ hf, h2.isCell, cl]
    refine wlp [7] 52 82 (by kernel_rfl) c.chans.length (fun k t α' => ∃ i, k = c.chans.length - i ∧ i ≤ c.chans.length ∧ t 52 = .int .i64 i ∧ MX α1.n α' (.slice ma c.parts.length mc) c.parts.length c.parts.length ((c.chans.take i).foldl (depS c.parts.length) (dep0 c.parts)) ∧ Fr α1.n α1 α')
      ⟨0, by omega, by omega, by simp, by simpa using hM, hf⟩ ?_
    rintro J3 hJ3 k t3 α3 ⟨i, rfl, hi, t52, hM, hf⟩
    by_cases ci : i < c.chans.length
    · have hfp := hF1.trans (hf.mono (by omega))
      obtain ⟨b, hb, bp⟩ := cld _ hfp
      obtain ⟨b1, b2, b3⟩ := bp i ci
      have e1 : IntKind.i64.wrap ((i : Int) + 1) = (i : Int) + 1 := w64 (by omega)
      have hx : Fr α1.n α1 (α3.alloc ⟨c.chans[i].enc, 36, true⟩) := hf.alloc hf.n _
      have hx' : Fr α.n α (α3.alloc ⟨c.chans[i].enc, 36, true⟩) := hfp.alloc (by have := hfp.n; omega) _
      simp only [Cn.enc] at hx hx' b2
      simp +contextual [t52, ci, cidx .i64 i ci, hb (by omega), b1, b2, aalloc, rb _ hx]
      refine (is_ok _ vp vc vt c _ (h0.fr hx')).mono fun r γ hr => ?_
      obtain ⟨rfl, hg⟩ := hr
      have hx2 := Fr.trans hx (hg.mono (by have := hf.n; simp; omega))
      have hx2' := Fr.trans hx' (hg.mono (by have := hfp.n; simp; omega))
      have g3 : γ.get α3.n = some ⟨c.chans[i].enc, 36, true⟩ := by rw [hg.get _ (by simp)]; exact AH.alloc_get _ _
      simp only [Cn.enc] at g3
      have hM2 := (hM.fr (Fr.alloc0 _ _)).fr hg
      have fin : ∀ (s' : AS) (γ : AH), s' 52 = .int .i64 ((i : Int) + 1) → MX α1.n γ (.slice ma c.parts.length mc) c.parts.length c.parts.length (depS c.parts.length ((c.chans.take i).foldl (depS c.parts.length) (dep0 c.parts)) c.chans[i]) → Fr α1.n α1 γ → agn J3 (c.chans.length - i) s' γ :=
        fun s' γ q1 q2 q3 => agn_mk (c.chans.length - (i + 1)) (by omega) (hJ3 _ _ _ ⟨i + 1, rfl, by omega, by simpa using q1, by rw [foldl_take _ _ _ ci]; exact q2, q3⟩)
      by_cases c1 : 0 ≤ c.chans[i].f ∧ c.chans[i].f < c.parts.length
      · simp +contextual [c1, rb _ hx2, g3]
        refine (is_ok _ vp vc vt c _ (h0.fr hx2')).mono fun r δ hr => ?_
        obtain ⟨rfl, hd⟩ := hr
        replace g3 := (hd.get α3.n (by have := hg.n; simp at this; omega)).trans g3
        have hx2 := Fr.trans hx2 (hd.mono hx2.n)
        have hM2 := hM2.fr hd
        by_cases c2 : 0 ≤ c.chans[i].t ∧ c.chans[i].t < c.parts.length
        · simp +contextual [c2]
          obtain ⟨x, hx0⟩ := Int.eq_ofNat_of_zero_le c1.1
          obtain ⟨y, hy0⟩ := Int.eq_ofNat_of_zero_le c2.1
          have hx1 : x < c.parts.length := by omega
          have hy1 : y < c.parts.length := by omega
          obtain ⟨o, cc, ro, id, ci', rr, kd, ck', rk, q1, q2, q3, q3', q4, q4', q5, q5', -, -, q7, q7', -, q8, q9⟩ := hM2.at2 hx1 hy1 hy1 hx1
          injection q1 with q1
          subst q1
          obtain ⟨rk', q8a, q8b, q8d, q8c⟩ := q8 true
          have hne : α3.n ≠ id := fun e => by rw [e, q4] at g3; cases g3
          have hno : o ≠ id := fun e => by rw [e, q4] at q2; cases q2
          have hS : depS c.parts.length ((c.chans.take i).foldl (depS c.parts.length) (dep0 c.parts)) c.chans[i] = upd2 (upd2 ((c.chans.take i).foldl (depS c.parts.length) (dep0 c.parts)) x y true) y x true := by
            rw [depS, if_pos ⟨c1, c2⟩, hx0, hy0]; rfl
          refine wdraw (tks [0, 0, 0, 0, 0, 0, 0, 0, 0, 0, 0, 0, 0, 1] (.pick (.cons 0 (.pick (.cons 0 (.take 0 (.pick (.cons 0 (.done) .nil))) .nil)) (.cons 1 (.take 0 (.take 0 (.pick (.cons 0 (.done) .nil)))) .nil)))) (by kernel_rfl) ?_
          simp +contextual [hx0, hy0, g3, hx1, hy1, q2, q3, q3', q4, q4', q5, q5', q8a, q8b, AH.set_get_ne, hne, t52, e1]
          exact fin _ _ (by simp) (by rw [hS]; exact q8c true) ((hx2.set q7 _).set q7' _)
        · simp +contextual [c2, t52, e1]
          exact fin _ _ (by simp) (by rw [depS, if_neg (fun h => c2 h.2)]; exact hM2) hx2
      · simp +contextual [c1, t52, e1]
        exact fin _ _ (by simp) (by rw [depS, if_neg (fun h => c1 h.1)]; exact hM2) hx2
    · have : i = c.chans.length := by omega
      subst this
      simp +contextual [t52]
      exact ⟨by simpa [depM] using hM.mono (by omega), hF1.trans (hf.mono (by omega))⟩

set_option maxRecDepth 100000 in
set_option maxHeartbeats 1000000 in
theorem sways_ok (vp vc vt : Value) (c : Cf) (α : AH) (h : IsCfg α (.agg #[vp, vc, vt]) c) (hl : c.parts.length ≤ 1000) (hlc : c.chans.length ≤ 1000000000) :
    NCalls Try.prog 18 [.agg #[vp, vc, vt]] α (fun v α' => MX α.n α' v c.parts.length c.parts.length (swM c) ∧ Fr α.n α α') := by
  have h0 := h
  obtain ⟨_, _, _, he, h1, h2, h3⟩ := h
  cases he
  obtain ⟨pid, poff, pl, pidx, pld⟩ := part_rd h1
  obtain ⟨cid, coff, cl, cidx, cld⟩ := h2.rdf (t := 23) Try.underlying23 sz36
  refine ncw mixd Try.func18 rfl Try.results18 (by kernel_rfl) ?_
  simp +contextual [h1.isCell, h2.isCell, h3.isCell, pl]
  have hF1 := Fr.alloc0 α ⟨[vp, vc, vt], 26, true⟩
  have hg1 := AH.alloc_get α ⟨[vp, vc, vt], 26, true⟩
  have hn1 := AH.alloc_n α ⟨[vp, vc, vt], 26, true⟩
  generalize α.alloc _ = α1 at *
  refine (square_ok _ hl _).mono fun m β hm => ?_
  obtain ⟨hM, hf⟩ := hm
  obtain ⟨ma, mc, rfl⟩ := hM.isSl
  simp +contextual
  have rb : ∀ γ, Fr α1.n α1 γ → γ.get α.n = some ⟨[vp, vc, vt], 26, true⟩ := fun γ hγ => by rw [hγ.get _ (by omega)]; exact hg1
  refine wlp [4, 5] 14 48 (by kernel_rfl) c.parts.length (fun k t α' => ∃ i, k = c.parts.length - i ∧ i ≤ c.parts.length ∧ t 14 = .int .i64 i ∧ MX α1.n α' (.slice ma c.parts.length mc) c.parts.length c.parts.length (fun a b => if a < i then sw0 c.parts a b else false) ∧ Fr α1.n α1 α')
    ⟨0, by omega, by omega, by simp, by simpa using hM, hf⟩ ?_
  rintro J hJ k t α2 ⟨i, rfl, hi, t14, hM, hf⟩
  by_cases ci : i < c.parts.length
  · have e1 : IntKind.i64.wrap ((i : Int) + 1) = (i : Int) + 1 := w64 (by omega)
    simp +contextual [t14, ci]
    refine wlp [5] 19 47 (by kernel_rfl) c.parts.length (fun k t α' => ∃ j, k = c.parts.length - j ∧ j ≤ c.parts.length ∧ t 19 = .int .i64 j ∧ MX α1.n α' (.slice ma c.parts.length mc) c.parts.length c.parts.length (fun a b => if a < i ∨ a = i ∧ b < j then sw0 c.parts a b else false) ∧ Fr α1.n α1 α')
      ⟨0, by omega, by omega, by simp, by simpa using hM, hf⟩ ?_
    rintro J2 hJ2 k t2 α3 ⟨j, rfl, hj, t19, hM, hf⟩
    by_cases cj : j < c.parts.length
    · simp +contextual [t14, t19, cj]
      refine wdraw (tks [0, 0, 0, 0, 0, 0, 0, 0, 0, 0, 0, 0, 0, 0, 0, 0, 0, 0, 0, 0, 0, 0, 0, 0, 0] (.pick (.cons 0 (.done) .nil))) (by kernel_rfl) ?_
      obtain ⟨o, cc, ro, id, ci', rr, q1, q2, q3, q4, q5, q6, q7, q8, -, -, q9⟩ := hM.at ci cj
      rw [if_neg (by omega)] at q6
      injection q1 with q1
      subst q1
      have hfp := hF1.trans (hf.mono (by omega))
      obtain ⟨b, hb, bp⟩ := pld _ hfp
      obtain ⟨_, _, _, _, _, _, -, -, -, -, -, -, -, si, zi, -⟩ := bp i ci
      obtain ⟨_, _, _, _, _, _, -, -, -, -, -, -, -, sj, -⟩ := bp j cj
      have fin : ∀ (s' : AS) (x : Bool), s' 19 = .int .i64 ((j : Int) + 1) → x = sw0 c.parts i j → agn J2 (c.parts.length - j) s' (α3.set id (some ⟨rr.set j (.bool x), 4, true⟩)) := fun s' x h1 h2 =>
        agn_mk (c.parts.length - (j + 1)) (by omega) (hJ2 _ _ _ ⟨j + 1, rfl, by omega, by simpa using h1, (q9 x).congr fun a b _ _ => by
          simp only [upd2]
          by_cases e : a = i ∧ b = j
          · rw [if_pos e, h2, if_pos (by omega), e.1, e.2]
          · rw [if_neg e]; congr 1; simp only [eq_iff_iff]; omega, hf.set q7 _⟩)
      have e2 : IntKind.i64.wrap ((j : Int) + 1) = (j : Int) + 1 := w64 (by omega)
      simp +contextual [t14, t19, rb _ hf, ci, cj, pidx .i64 i ci, pidx .i64 j cj, hb (by omega), si, zi, sj, q2, q3, q4, q5, q6, e2]
      repeat' refine both.mk (fun _ => ?_) (fun _ => ?_)
      all_goals exact fin _ _ (by simp) (by simp_all [sw0])
    · have : j = c.parts.length := by omega
      subst this
      simp +contextual [t14, t19, e1]
      refine agn_mk (c.parts.length - (i + 1)) (by omega) (hJ _ _ _ ⟨i + 1, rfl, by omega, by simp, hM.congr fun a b _ hb => ?_, hf⟩)
      congr 1
      simp only [eq_iff_iff]; omega
  · have : i = c.parts.length := by omega
    subst this
    have hM : MX α1.n α2 (.slice ma c.parts.length mc) c.parts.length c.parts.length (sw0 c.parts) := hM.congr fun a b ha _ => by rw [if_pos ha]
    simp +contextual [t14, rb _ hf, h2.isCell, cl]
    refine wlp [7] 52 95 (by kernel_rfl) c.chans.length (fun k t α' => ∃ i, k = c.chans.length - i ∧ i ≤ c.chans.length ∧ t 52 = .int .i64 i ∧ MX α1.n α' (.slice ma c.parts.length mc) c.parts.length c.parts.length ((c.chans.take i).foldl (swS c.parts.length) (sw0 c.parts)) ∧ Fr α1.n α1 α')
      ⟨0, by omega, by omega, by simp, by simpa using hM, hf⟩ ?_
    rintro J3 hJ3 k t3 α3 ⟨i, rfl, hi, t52, hM, hf⟩
    by_cases ci : i < c.chans.length
    · have hfp := hF1.trans (hf.mono (by omega))
      obtain ⟨b, hb, bp⟩ := cld _ hfp
      obtain ⟨b1, b2, b3⟩ := bp i ci
      have e1 : IntKind.i64.wrap ((i : Int) + 1) = (i : Int) + 1 := w64 (by omega)
      have hx : Fr α1.n α1 (α3.alloc ⟨c.chans[i].enc, 36, true⟩) := hf.alloc hf.n _
      have hx' : Fr α.n α (α3.alloc ⟨c.chans[i].enc, 36, true⟩) := hfp.alloc (by have := hfp.n; omega) _
      simp only [Cn.enc] at hx hx' b2
      simp +contextual [t52, ci, cidx .i64 i ci, hb (by omega), b1, b2, aalloc, rb _ hx]
      refine (is_ok _ vp vc vt c _ (h0.fr hx')).mono fun r γ hr => ?_
      obtain ⟨rfl, hg⟩ := hr
      have hx2 := Fr.trans hx (hg.mono (by have := hf.n; simp; omega))
      have hx2' := Fr.trans hx' (hg.mono (by have := hfp.n; simp; omega))
      have g3 : γ.get α3.n = some ⟨c.chans[i].enc, 36, true⟩ := by rw [hg.get _ (by simp)]; exact AH.alloc_get _ _
      simp only [Cn.enc] at g3
      have hM2 := (hM.fr (Fr.alloc0 _ _)).fr hg
      have fin : ∀ (s' : AS) (γ : AH), s' 52 = .int .i64 ((i : Int) + 1) → MX α1.n γ (.slice ma c.parts.length mc) c.parts.length c.parts.length (swS c.parts.length ((c.chans.take i).foldl (swS c.parts.length) (sw0 c.parts)) c.chans[i]) → Fr α1.n α1 γ → agn J3 (c.chans.length - i) s' γ :=
        fun s' γ q1 q2 q3 => agn_mk (c.chans.length - (i + 1)) (by omega) (hJ3 _ _ _ ⟨i + 1, rfl, by omega, by simpa using q1, by rw [foldl_take _ _ _ ci]; exact q2, q3⟩)
      by_cases c1 : 0 ≤ c.chans[i].f ∧ c.chans[i].f < c.parts.length
      · simp +contextual [c1, rb _ hx2, g3]
        refine (is_ok _ vp vc vt c _ (h0.fr hx2')).mono fun r δ hr => ?_
        obtain ⟨rfl, hd⟩ := hr
        replace g3 := (hd.get α3.n (by have := hg.n; simp at this; omega)).trans g3
        have hx2 := Fr.trans hx2 (hd.mono hx2.n)
        have hM2 := hM2.fr hd
        by_cases c2 : 0 ≤ c.chans[i].t ∧ c.chans[i].t < c.parts.length
        · simp +contextual [c2]
          obtain ⟨x, hx0⟩ := Int.eq_ofNat_of_zero_le c1.1
          obtain ⟨y, hy0⟩ := Int.eq_ofNat_of_zero_le c2.1
          have hx1 : x < c.parts.length := by omega
          have hy1 : y < c.parts.length := by omega
          obtain ⟨o, cc, ro, id, ci', rr, kd, ck', rk, q1, q2, q3, q3', q4, q4', q5, q5', -, -, q7, q7', -, q8, q9⟩ := hM2.at2 hx1 hy1 hy1 hx1
          injection q1 with q1
          subst q1
          obtain ⟨rk', q8a, q8b, q8d, q8c⟩ := q8 true
          have hne : α3.n ≠ id := fun e => by rw [e, q4] at g3; cases g3
          have hno : o ≠ id := fun e => by rw [e, q4] at q2; cases q2
          have hS : swS c.parts.length ((c.chans.take i).foldl (swS c.parts.length) (sw0 c.parts)) c.chans[i] = upd2 (upd2 ((c.chans.take i).foldl (swS c.parts.length) (sw0 c.parts)) x y true) y x (upd2 ((c.chans.take i).foldl (swS c.parts.length) (sw0 c.parts)) x y true y x || c.chans[i].q) := by
            rw [swS, if_pos ⟨c1, c2⟩, hx0, hy0]; rfl
          refine wdraw (tks [0, 0, 0, 0, 0, 0, 0, 0] (.pick (.cons 0 (.done) .nil))) (by kernel_rfl) ?_
          simp +contextual [hx0, hy0, g3, hx1, hy1, q2, q3, q4, q5]
          refine wdraw (tks [0, 0, 0, 0, 0, 0, 0, 0, 0, 0, 0, 0, 0, 0, 0, 0, 0, 0, 0, 0, 0] (.pick (.cons 0 (.done) .nil))) (by kernel_rfl) ?_
          generalize hgx : upd2 ((c.chans.take i).foldl (swS c.parts.length) (sw0 c.parts)) x y true = gx at *
          simp +contextual [hx0, hy0, g3, hx1, hy1, q2, q3', q8a, q8b, q8d, AH.set_get_ne, hne, hno, t52, e1]
          repeat' refine both.mk (fun _ => ?_) (fun _ => ?_)
          all_goals exact fin _ _ (by simp) (by rw [hS]; exact (q8c _).congr fun a b _ _ => by simp only [upd2]; split <;> simp_all) ((hx2.set q7 _).set q7' _)
        · simp +contextual [c2, t52, e1]
          exact fin _ _ (by simp) (by rw [swS, if_neg (fun h => c2 h.2)]; exact hM2) hx2
      · simp +contextual [c1, t52, e1]
        exact fin _ _ (by simp) (by rw [swS, if_neg (fun h => c1 h.1)]; exact hM2) hx2
    · have : i = c.chans.length := by omega
      subst this
      simp +contextual [t52]
      exact ⟨by simpa [swM] using hM.mono (by omega), hF1.trans (hf.mono (by omega))⟩

set_option maxRecDepth 100000 in
set_option maxHeartbeats 1000000 in
theorem rdepends_ok (vp vc vt : Value) (c : Cf) (α : AH) (h : IsCfg α (.agg #[vp, vc, vt]) c) (hl : c.parts.length ≤ 1000) (hlc : c.chans.length ≤ 1000000000) :
    NCalls Try.prog 36 [.agg #[vp, vc, vt]] α (fun v α' => MX α.n α' v c.parts.length c.parts.length (depM c) ∧ Fr α.n α α') := by
  have h0 := h
  obtain ⟨_, _, _, he, h1, h2, h3⟩ := h
  cases he
  obtain ⟨pid, poff, pl, pidx, pld⟩ := part_rd h1
  obtain ⟨cid, coff, cl, cidx, cld⟩ := h2.rdf (t := 23) Try.underlying23 sz36
  refine ncw mixd Try.func36 rfl Try.results36 (by kernel_rfl) ?_
  simp +contextual [h1.isCell, h2.isCell, h3.isCell, pl]
  have hF1 := Fr.alloc0 α ⟨[vp, vc, vt], 26, true⟩
  have hg1 := AH.alloc_get α ⟨[vp, vc, vt], 26, true⟩
  have hn1 := AH.alloc_n α ⟨[vp, vc, vt], 26, true⟩
  generalize α.alloc _ = α1 at *
  refine (rsquare_ok _ hl _).mono fun m β hm => ?_
  obtain ⟨hM, hf⟩ := hm
  obtain ⟨ma, mc, rfl⟩ := hM.isSl
  simp +contextual
  have rb : ∀ γ, Fr α1.n α1 γ → γ.get α.n = some ⟨[vp, vc, vt], 26, true⟩ := fun γ hγ => by rw [hγ.get _ (by omega)]; exact hg1
  refine wlp [4, 5] 14 52 (by kernel_rfl) c.parts.length (fun k t α' => ∃ i, k = c.parts.length - i ∧ i ≤ c.parts.length ∧ t 14 = .int .i64 i ∧ MX α1.n α' (.slice ma c.parts.length mc) c.parts.length c.parts.length (fun a b => if a < i then dep0 c.parts a b else decide (a = b)) ∧ Fr α1.n α1 α')
    ⟨0, by omega, by omega, by simp, by simpa using hM, hf⟩ ?_
  rintro J hJ k t α2 ⟨i, rfl, hi, t14, hM, hf⟩
  by_cases ci : i < c.parts.length
  · have e1 : IntKind.i64.wrap ((i : Int) + 1) = (i : Int) + 1 := w64 (by omega)
    simp +contextual [t14, ci]
    refine wlp [5] 19 51 (by kernel_rfl) c.parts.length (fun k t α' => ∃ j, k = c.parts.length - j ∧ j ≤ c.parts.length ∧ t 19 = .int .i64 j ∧ MX α1.n α' (.slice ma c.parts.length mc) c.parts.length c.parts.length (fun a b => if a < i ∨ a = i ∧ b < j then dep0 c.parts a b else decide (a = b)) ∧ Fr α1.n α1 α')
      ⟨0, by omega, by omega, by simp, by simpa using hM, hf⟩ ?_
    rintro J2 hJ2 k t2 α3 ⟨j, rfl, hj, t19, hM, hf⟩
    by_cases cj : j < c.parts.length
    · simp +contextual [t14, t19, cj]
      refine wdraw (tks [0, 0, 0, 0, 0, 0, 0, 0, 0, 0, 0, 0, 0, 0, 0, 0, 0, 0, 0, 0, 0, 0, 0, 0, 0, 0, 0, 0, 0] (.pick (.cons 0 (.done) .nil))) (by kernel_rfl) ?_
      obtain ⟨o, cc, ro, id, ci', rr, q1, q2, q3, q4, q5, q6, q7, q8, -, -, q9⟩ := hM.at ci cj
      rw [if_neg (by omega)] at q6
      injection q1 with q1
      subst q1
      have hfp := hF1.trans (hf.mono (by omega))
      obtain ⟨b, hb, bp⟩ := pld _ hfp
      obtain ⟨_, _, _, _, _, _, -, -, -, -, -, -, -, si, zi, -⟩ := bp i ci
      obtain ⟨_, _, _, _, _, _, -, -, -, -, -, -, -, sj, -⟩ := bp j cj
      have fin : ∀ (s' : AS) (x : Bool), s' 19 = .int .i64 ((j : Int) + 1) → x = dep0 c.parts i j → agn J2 (c.parts.length - j) s' (α3.set id (some ⟨rr.set j (.bool x), 4, true⟩)) := fun s' x h1 h2 =>
        agn_mk (c.parts.length - (j + 1)) (by omega) (hJ2 _ _ _ ⟨j + 1, rfl, by omega, by simpa using h1, (q9 x).congr fun a b _ _ => by
          simp only [upd2]
          by_cases e : a = i ∧ b = j
          · rw [if_pos e, h2, if_pos (by omega), e.1, e.2]
          · rw [if_neg e]; congr 1; simp only [eq_iff_iff]; omega, hf.set q7 _⟩)
      have e2 : IntKind.i64.wrap ((j : Int) + 1) = (j : Int) + 1 := w64 (by omega)
      simp +contextual [t14, t19, rb _ hf, ci, cj, pidx .i64 i ci, pidx .i64 j cj, hb (by omega), si, zi, sj, q2, q3, q4, q5, q6, e2]
      repeat' refine both.mk (fun _ => ?_) (fun _ => ?_)
      all_goals exact fin _ _ (by simp) (by simp_all [dep0])
    · have : j = c.parts.length := by omega
      subst this
      simp +contextual [t14, t19, e1]
      refine agn_mk (c.parts.length - (i + 1)) (by omega) (hJ _ _ _ ⟨i + 1, rfl, by omega, by simp, hM.congr fun a b _ hb => ?_, hf⟩)
      congr 1
      simp only [eq_iff_iff]; omega
  · have : i = c.parts.length := by omega
    subst this
    have hM : MX α1.n α2 (.slice ma c.parts.length mc) c.parts.length c.parts.length (dep0 c.parts) := hM.congr fun a b ha _ => by rw [if_pos ha]
    simp +contextual [t14, rb _ hf, h2.isCell, cl]
    refine wlp [7] 56 86 (by kernel_rfl) c.chans.length (fun k t α' => ∃ i, k = c.chans.length - i ∧ i ≤ c.chans.length ∧ t 56 = .int .i64 i ∧ MX α1.n α' (.slice ma c.parts.length mc) c.parts.length c.parts.length ((c.chans.take i).foldl (depS c.parts.length) (dep0 c.parts)) ∧ Fr α1.n α1 α')
      ⟨0, by omega, by omega, by simp, by simpa using hM, hf⟩ ?_
    rintro J3 hJ3 k t3 α3 ⟨i, rfl, hi, t52, hM, hf⟩
    by_cases ci : i < c.chans.length
    · have hfp := hF1.trans (hf.mono (by omega))
      obtain ⟨b, hb, bp⟩ := cld _ hfp
      obtain ⟨b1, b2, b3⟩ := bp i ci
      have e1 : IntKind.i64.wrap ((i : Int) + 1) = (i : Int) + 1 := w64 (by omega)
      have hx : Fr α1.n α1 (α3.alloc ⟨c.chans[i].enc, 36, true⟩) := hf.alloc hf.n _
      have hx' : Fr α.n α (α3.alloc ⟨c.chans[i].enc, 36, true⟩) := hfp.alloc (by have := hfp.n; omega) _
      simp only [Cn.enc] at hx hx' b2
      simp +contextual [t52, ci, cidx .i64 i ci, hb (by omega), b1, b2, aalloc, rb _ hx]
      refine (in_ok _ vp vc vt c _ (h0.fr hx')).mono fun r γ hr => ?_
      obtain ⟨rfl, hg⟩ := hr
      have hx2 := Fr.trans hx (hg.mono (by have := hf.n; simp; omega))
      have hx2' := Fr.trans hx' (hg.mono (by have := hfp.n; simp; omega))
      have g3 : γ.get α3.n = some ⟨c.chans[i].enc, 36, true⟩ := by rw [hg.get _ (by simp)]; exact AH.alloc_get _ _
      simp only [Cn.enc] at g3
      have hM2 := (hM.fr (Fr.alloc0 _ _)).fr hg
      have fin : ∀ (s' : AS) (γ : AH), s' 56 = .int .i64 ((i : Int) + 1) → MX α1.n γ (.slice ma c.parts.length mc) c.parts.length c.parts.length (depS c.parts.length ((c.chans.take i).foldl (depS c.parts.length) (dep0 c.parts)) c.chans[i]) → Fr α1.n α1 γ → agn J3 (c.chans.length - i) s' γ :=
        fun s' γ q1 q2 q3 => agn_mk (c.chans.length - (i + 1)) (by omega) (hJ3 _ _ _ ⟨i + 1, rfl, by omega, by simpa using q1, by rw [foldl_take _ _ _ ci]; exact q2, q3⟩)
      by_cases c1 : 0 ≤ c.chans[i].f ∧ c.chans[i].f < c.parts.length
      · simp +contextual [c1, rb _ hx2, g3]
        refine (in_ok _ vp vc vt c _ (h0.fr hx2')).mono fun r δ hr => ?_
        obtain ⟨rfl, hd⟩ := hr
        replace g3 := (hd.get α3.n (by have := hg.n; simp at this; omega)).trans g3
        have hx2 := Fr.trans hx2 (hd.mono hx2.n)
        have hM2 := hM2.fr hd
        by_cases c2 : 0 ≤ c.chans[i].t ∧ c.chans[i].t < c.parts.length
        · simp +contextual [c2]
          obtain ⟨x, hx0⟩ := Int.eq_ofNat_of_zero_le c1.1
          obtain ⟨y, hy0⟩ := Int.eq_ofNat_of_zero_le c2.1
          have hx1 : x < c.parts.length := by omega
          have hy1 : y < c.parts.length := by omega
          obtain ⟨o, cc, ro, id, ci', rr, kd, ck', rk, q1, q2, q3, q3', q4, q4', q5, q5', -, -, q7, q7', -, q8, q9⟩ := hM2.at2 hx1 hy1 hy1 hx1
          injection q1 with q1
          subst q1
          obtain ⟨rk', q8a, q8b, q8d, q8c⟩ := q8 true
          have hne : α3.n ≠ id := fun e => by rw [e, q4] at g3; cases g3
          have hno : o ≠ id := fun e => by rw [e, q4] at q2; cases q2
          have hS : depS c.parts.length ((c.chans.take i).foldl (depS c.parts.length) (dep0 c.parts)) c.chans[i] = upd2 (upd2 ((c.chans.take i).foldl (depS c.parts.length) (dep0 c.parts)) x y true) y x true := by
            rw [depS, if_pos ⟨c1, c2⟩, hx0, hy0]; rfl
          refine wdraw (tks [0, 0, 0, 0, 0, 0, 0, 0, 0, 0, 0, 0, 0, 1] (.pick (.cons 0 (.pick (.cons 0 (.take 0 (.pick (.cons 0 (.done) .nil))) .nil)) (.cons 1 (.take 0 (.take 0 (.pick (.cons 0 (.done) .nil)))) .nil)))) (by kernel_rfl) ?_
          simp +contextual [hx0, hy0, g3, hx1, hy1, q2, q3, q3', q4, q4', q5, q5', q8a, q8b, AH.set_get_ne, hne, t52, e1]
          exact fin _ _ (by simp) (by rw [hS]; exact q8c true) ((hx2.set q7 _).set q7' _)
        · simp +contextual [c2, t52, e1]
          exact fin _ _ (by simp) (by rw [depS, if_neg (fun h => c2 h.2)]; exact hM2) hx2
      · simp +contextual [c1, t52, e1]
        exact fin _ _ (by simp) (by rw [depS, if_neg (fun h => c1 h.1)]; exact hM2) hx2
    · have : i = c.chans.length := by omega
      subst this
      simp +contextual [t52]
      exact ⟨by simpa [depM] using hM.mono (by omega), hF1.trans (hf.mono (by omega))⟩

set_option maxRecDepth 100000 in
set_option maxHeartbeats 1000000 in
theorem rsways_ok (vp vc vt : Value) (c : Cf) (α : AH) (h : IsCfg α (.agg #[vp, vc, vt]) c) (hl : c.parts.length ≤ 1000) (hlc : c.chans.length ≤ 1000000000) :
    NCalls Try.prog 37 [.agg #[vp, vc, vt]] α (fun v α' => MX α.n α' v c.parts.length c.parts.length (swM c) ∧ Fr α.n α α') := by
  have h0 := h
  obtain ⟨_, _, _, he, h1, h2, h3⟩ := h
  cases he
  obtain ⟨pid, poff, pl, pidx, pld⟩ := part_rd h1
  obtain ⟨cid, coff, cl, cidx, cld⟩ := h2.rdf (t := 23) Try.underlying23 sz36
  refine ncw mixd Try.func37 rfl Try.results37 (by kernel_rfl) ?_
  simp +contextual [h1.isCell, h2.isCell, h3.isCell, pl]
  have hF1 := Fr.alloc0 α ⟨[vp, vc, vt], 26, true⟩
  have hg1 := AH.alloc_get α ⟨[vp, vc, vt], 26, true⟩
  have hn1 := AH.alloc_n α ⟨[vp, vc, vt], 26, true⟩
  generalize α.alloc _ = α1 at *
  refine (rsquare_ok _ hl _).mono fun m β hm => ?_
  obtain ⟨hM, hf⟩ := hm
  obtain ⟨ma, mc, rfl⟩ := hM.isSl
  simp +contextual
  have rb : ∀ γ, Fr α1.n α1 γ → γ.get α.n = some ⟨[vp, vc, vt], 26, true⟩ := fun γ hγ => by rw [hγ.get _ (by omega)]; exact hg1
  refine wlp [4, 5] 14 52 (by kernel_rfl) c.parts.length (fun k t α' => ∃ i, k = c.parts.length - i ∧ i ≤ c.parts.length ∧ t 14 = .int .i64 i ∧ MX α1.n α' (.slice ma c.parts.length mc) c.parts.length c.parts.length (fun a b => if a < i then sw0 c.parts a b else decide (a = b)) ∧ Fr α1.n α1 α')
    ⟨0, by omega, by omega, by simp, by simpa using hM, hf⟩ ?_
  rintro J hJ k t α2 ⟨i, rfl, hi, t14, hM, hf⟩
  by_cases ci : i < c.parts.length
  · have e1 : IntKind.i64.wrap ((i : Int) + 1) = (i : Int) + 1 := w64 (by omega)
    simp +contextual [t14, ci]
    refine wlp [5] 19 51 (by kernel_rfl) c.parts.length (fun k t α' => ∃ j, k = c.parts.length - j ∧ j ≤ c.parts.length ∧ t 19 = .int .i64 j ∧ MX α1.n α' (.slice ma c.parts.length mc) c.parts.length c.parts.length (fun a b => if a < i ∨ a = i ∧ b < j then sw0 c.parts a b else decide (a = b)) ∧ Fr α1.n α1 α')
      ⟨0, by omega, by omega, by simp, by simpa using hM, hf⟩ ?_
    rintro J2 hJ2 k t2 α3 ⟨j, rfl, hj, t19, hM, hf⟩
    by_cases cj : j < c.parts.length
    · simp +contextual [t14, t19, cj]
      refine wdraw (tks [0, 0, 0, 0, 0, 0, 0, 0, 0, 0, 0, 0, 0, 0, 0, 0, 0, 0, 0, 0, 0, 0, 0, 0, 0, 0, 0, 0, 0] (.pick (.cons 0 (.done) .nil))) (by kernel_rfl) ?_
      obtain ⟨o, cc, ro, id, ci', rr, q1, q2, q3, q4, q5, q6, q7, q8, -, -, q9⟩ := hM.at ci cj
      rw [if_neg (by omega)] at q6
      injection q1 with q1
      subst q1
      have hfp := hF1.trans (hf.mono (by omega))
      obtain ⟨b, hb, bp⟩ := pld _ hfp
      obtain ⟨_, _, _, _, _, _, -, -, -, -, -, -, -, si, zi, -⟩ := bp i ci
      obtain ⟨_, _, _, _, _, _, -, -, -, -, -, -, -, sj, -⟩ := bp j cj
      have fin : ∀ (s' : AS) (x : Bool), s' 19 = .int .i64 ((j : Int) + 1) → x = sw0 c.parts i j → agn J2 (c.parts.length - j) s' (α3.set id (some ⟨rr.set j (.bool x), 4, true⟩)) := fun s' x h1 h2 =>
        agn_mk (c.parts.length - (j + 1)) (by omega) (hJ2 _ _ _ ⟨j + 1, rfl, by omega, by simpa using h1, (q9 x).congr fun a b _ _ => by
          simp only [upd2]
          by_cases e : a = i ∧ b = j
          · rw [if_pos e, h2, if_pos (by omega), e.1, e.2]
          · rw [if_neg e]; congr 1; simp only [eq_iff_iff]; omega, hf.set q7 _⟩)
      have e2 : IntKind.i64.wrap ((j : Int) + 1) = (j : Int) + 1 := w64 (by omega)
      simp +contextual [t14, t19, rb _ hf, ci, cj, pidx .i64 i ci, pidx .i64 j cj, hb (by omega), si, zi, sj, q2, q3, q4, q5, q6, e2]
      repeat' refine both.mk (fun _ => ?_) (fun _ => ?_)
      all_goals exact fin _ _ (by simp) (by simp_all [sw0])
    · have : j = c.parts.length := by omega
      subst this
      simp +contextual [t14, t19, e1]
      refine agn_mk (c.parts.length - (i + 1)) (by omega) (hJ _ _ _ ⟨i + 1, rfl, by omega, by simp, hM.congr fun a b _ hb => ?_, hf⟩)
      congr 1
      simp only [eq_iff_iff]; omega
  · have : i = c.parts.length := by omega
    subst this
    have hM : MX α1.n α2 (.slice ma c.parts.length mc) c.parts.length c.parts.length (sw0 c.parts) := hM.congr fun a b ha _ => by rw [if_pos ha]
    simp +contextual [t14, rb _ hf, h2.isCell, cl]
    refine wlp [7] 56 99 (by kernel_rfl) c.chans.length (fun k t α' => ∃ i, k = c.chans.length - i ∧ i ≤ c.chans.length ∧ t 56 = .int .i64 i ∧ MX α1.n α' (.slice ma c.parts.length mc) c.parts.length c.parts.length ((c.chans.take i).foldl (swS c.parts.length) (sw0 c.parts)) ∧ Fr α1.n α1 α')
      ⟨0, by omega, by omega, by simp, by simpa using hM, hf⟩ ?_
    rintro J3 hJ3 k t3 α3 ⟨i, rfl, hi, t52, hM, hf⟩
    by_cases ci : i < c.chans.length
    · have hfp := hF1.trans (hf.mono (by omega))
      obtain ⟨b, hb, bp⟩ := cld _ hfp
      obtain ⟨b1, b2, b3⟩ := bp i ci
      have e1 : IntKind.i64.wrap ((i : Int) + 1) = (i : Int) + 1 := w64 (by omega)
      have hx : Fr α1.n α1 (α3.alloc ⟨c.chans[i].enc, 36, true⟩) := hf.alloc hf.n _
      have hx' : Fr α.n α (α3.alloc ⟨c.chans[i].enc, 36, true⟩) := hfp.alloc (by have := hfp.n; omega) _
      simp only [Cn.enc] at hx hx' b2
      simp +contextual [t52, ci, cidx .i64 i ci, hb (by omega), b1, b2, aalloc, rb _ hx]
      refine (in_ok _ vp vc vt c _ (h0.fr hx')).mono fun r γ hr => ?_
      obtain ⟨rfl, hg⟩ := hr
      have hx2 := Fr.trans hx (hg.mono (by have := hf.n; simp; omega))
      have hx2' := Fr.trans hx' (hg.mono (by have := hfp.n; simp; omega))
      have g3 : γ.get α3.n = some ⟨c.chans[i].enc, 36, true⟩ := by rw [hg.get _ (by simp)]; exact AH.alloc_get _ _
      simp only [Cn.enc] at g3
      have hM2 := (hM.fr (Fr.alloc0 _ _)).fr hg
      have fin : ∀ (s' : AS) (γ : AH), s' 56 = .int .i64 ((i : Int) + 1) → MX α1.n γ (.slice ma c.parts.length mc) c.parts.length c.parts.length (swS c.parts.length ((c.chans.take i).foldl (swS c.parts.length) (sw0 c.parts)) c.chans[i]) → Fr α1.n α1 γ → agn J3 (c.chans.length - i) s' γ :=
        fun s' γ q1 q2 q3 => agn_mk (c.chans.length - (i + 1)) (by omega) (hJ3 _ _ _ ⟨i + 1, rfl, by omega, by simpa using q1, by rw [foldl_take _ _ _ ci]; exact q2, q3⟩)
      by_cases c1 : 0 ≤ c.chans[i].f ∧ c.chans[i].f < c.parts.length
      · simp +contextual [c1, rb _ hx2, g3]
        refine (in_ok _ vp vc vt c _ (h0.fr hx2')).mono fun r δ hr => ?_
        obtain ⟨rfl, hd⟩ := hr
        replace g3 := (hd.get α3.n (by have := hg.n; simp at this; omega)).trans g3
        have hx2 := Fr.trans hx2 (hd.mono hx2.n)
        have hM2 := hM2.fr hd
        by_cases c2 : 0 ≤ c.chans[i].t ∧ c.chans[i].t < c.parts.length
        · simp +contextual [c2]
          obtain ⟨x, hx0⟩ := Int.eq_ofNat_of_zero_le c1.1
          obtain ⟨y, hy0⟩ := Int.eq_ofNat_of_zero_le c2.1
          have hx1 : x < c.parts.length := by omega
          have hy1 : y < c.parts.length := by omega
          obtain ⟨o, cc, ro, id, ci', rr, kd, ck', rk, q1, q2, q3, q3', q4, q4', q5, q5', -, -, q7, q7', -, q8, q9⟩ := hM2.at2 hx1 hy1 hy1 hx1
          injection q1 with q1
          subst q1
          obtain ⟨rk', q8a, q8b, q8d, q8c⟩ := q8 true
          have hne : α3.n ≠ id := fun e => by rw [e, q4] at g3; cases g3
          have hno : o ≠ id := fun e => by rw [e, q4] at q2; cases q2
          have hS : swS c.parts.length ((c.chans.take i).foldl (swS c.parts.length) (sw0 c.parts)) c.chans[i] = upd2 (upd2 ((c.chans.take i).foldl (swS c.parts.length) (sw0 c.parts)) x y true) y x (upd2 ((c.chans.take i).foldl (swS c.parts.length) (sw0 c.parts)) x y true y x || c.chans[i].q) := by
            rw [swS, if_pos ⟨c1, c2⟩, hx0, hy0]; rfl
          refine wdraw (tks [0, 0, 0, 0, 0, 0, 0, 0] (.pick (.cons 0 (.done) .nil))) (by kernel_rfl) ?_
          simp +contextual [hx0, hy0, g3, hx1, hy1, q2, q3, q4, q5]
          refine wdraw (tks [0, 0, 0, 0, 0, 0, 0, 0, 0, 0, 0, 0, 0, 0, 0, 0, 0, 0, 0, 0, 0] (.pick (.cons 0 (.done) .nil))) (by kernel_rfl) ?_
          generalize hgx : upd2 ((c.chans.take i).foldl (swS c.parts.length) (sw0 c.parts)) x y true = gx at *
          simp +contextual [hx0, hy0, g3, hx1, hy1, q2, q3', q8a, q8b, q8d, AH.set_get_ne, hne, hno, t52, e1]
          repeat' refine both.mk (fun _ => ?_) (fun _ => ?_)
          all_goals exact fin _ _ (by simp) (by rw [hS]; exact (q8c _).congr fun a b _ _ => by simp only [upd2]; split <;> simp_all) ((hx2.set q7 _).set q7' _)
        · simp +contextual [c2, t52, e1]
          exact fin _ _ (by simp) (by rw [swS, if_neg (fun h => c2 h.2)]; exact hM2) hx2
      · simp +contextual [c1, t52, e1]
        exact fin _ _ (by simp) (by rw [swS, if_neg (fun h => c1 h.1)]; exact hM2) hx2
    · have : i = c.chans.length := by omega
      subst this
      simp +contextual [t52]
      exact ⟨by simpa [swM] using hM.mono (by omega), hF1.trans (hf.mono (by omega))⟩
end Go.Proofs.Ytggkeldedennfaa

set_option linter.unusedVariables false
set_option linter.unusedSimpArgs false
namespace Go.Proofs.Ytggkeldedennfaa
open Go Go.RowKit Go.Lay Go.Nod
theorem nilC (e : TypeId) (α : AH) : (α.alloc ⟨[], e, true⟩).get α.n = some ⟨[], e, true⟩ := AH.alloc_get _ _
theorem mkE (α : AH) : abuildSlice Try.prog 40 0 [] α = some (.slice (some ⟨α.n, 0, none⟩) 0 0, α.alloc ⟨[], 4, true⟩) := by simp
theorem ow0 {τ : Type} (e : TypeId) (K : Kd τ) (α : AH) (c : Nat) : Ow α.n e K (α.alloc ⟨[], e, true⟩) (.slice (some ⟨α.n, 0, none⟩) 0 c) [] := .inr ⟨α.n, c, _, rfl, Nat.le_refl _, by simp, AH.alloc_get _ _, rfl, rfl, by simp, fun i hi => by simp at hi⟩
abbrev Bools (α : AH) (v : Value) (xs : List Bool) : Prop := Sl 4 boolK α v xs
/-- a copy of a row of bools, behind an empty row -/
theorem cpB {α : AH} {v : Value} {xs : List Bool} (h : Bools α v xs) (hl : xs.length ≤ 1000000000) : ∃ v' α', aappend Try.prog #[40, 40] (.slice (some ⟨α.n, 0, none⟩) 0 0) v (α.alloc ⟨[], 4, true⟩) = some (v', α') ∧ Ow α.n 4 boolK α' v' xs ∧ Fr α.n α α' := by
  obtain ⟨v', α', h1, h2, h3, -⟩ := (ow0 4 boolK α 0).append (t := 40) el40 (by simp) (h.fr (Fr.alloc0 _ _)) (boolK_apart _) (by simp; omega)
  exact ⟨v', α', h1, by simpa using h2, (Fr.alloc0 _ _).trans h3⟩
set_option maxRecDepth 100000 in
theorem clone_ok (xs : List Bool) (α : AH) (v : Value) (h : Bools α v xs) (hl : xs.length ≤ 1000000000) :
    NCalls Try.prog 42 [v] α (fun r α' => Ow α.n 4 boolK α' r xs ∧ Fr α.n α α') := by
  obtain ⟨v', α', h1, h2, h3⟩ := cpB h hl
  rcases h with ⟨rfl, rfl⟩ | ⟨id, off, c, b, rfl, _⟩
  · refine ncw mixd Try.func42 rfl Try.results42 (by kernel_rfl) ?_
    simp
    exact .nil
  · refine ncw mixd Try.func42 rfl Try.results42 (by kernel_rfl) ?_
    simp [h1, h2, h3]
def matF (ms : List (List Bool)) (a b : Nat) : Bool := ((ms[a]?.getD [])[b]?).getD false
def cl1 (b a : Nat) (f : Nat → Nat → Bool) (c : Nat) : Nat → Nat → Bool := upd2 f a c (f a c || (f a b && f b c))
def cl2 (n b : Nat) (f : Nat → Nat → Bool) (a : Nat) : Nat → Nat → Bool := (List.range n).foldl (cl1 b a) f
def cl3 (n : Nat) (f : Nat → Nat → Bool) (b : Nat) : Nat → Nat → Bool := (List.range n).foldl (cl2 n b) f
def clM (n : Nat) (f : Nat → Nat → Bool) : Nat → Nat → Bool := (List.range n).foldl (cl3 n) f
theorem fold_succ {σ : Type} (g : σ → Nat → σ) (a : σ) (n : Nat) : (List.range (n + 1)).foldl g a = g ((List.range n).foldl g a) n := by rw [List.range_succ, List.foldl_append]; rfl
/-- A row of rows, read. -/
theorem mats_rd {α : AH} {v : Value} {ms : List (List Bool)} (h : Mats α v ms) : ∃ id off, alen Try.prog #[38] v = some (.int .i64 (ms.length : Int)) ∧
    (∀ (k : IntKind) (i : Nat), i < ms.length → aindexAddr Try.prog 38 v (.int k (i : Int)) = some (.pointer (some ⟨id, off + i, none⟩))) ∧
    ∀ β, Fr α.n α β → ∃ b, (0 < ms.length → β.get id = some b) ∧ ∀ (i : Nat) (hi : i < ms.length), ∃ u, b.cells[off + i]? = some u ∧ Bools β u ms[i] := by
  obtain ⟨id, off, a1, a2, a3⟩ := h.rd1 (t := 38) Try.underlying38 sz40
  refine ⟨id, off, a1, fun k i hi => by have := a2 k i hi; rw [show (sliceK 4 boolK).sz = 1 from rfl, Nat.mul_one] at this; exact this, fun β hf => ?_⟩
  obtain ⟨b, b1, b2⟩ := a3 β hf
  refine ⟨b, b1, fun i hi => ?_⟩
  obtain ⟨b3, u, b4, b5⟩ := b2 i hi
  rw [show (sliceK 4 boolK).sz = 1 from rfl, Nat.mul_one] at b4
  exact ⟨u, take_get b4 (j := 0) (by simp), b5⟩

set_option maxRecDepth 100000 in
set_option maxHeartbeats 1000000 in
theorem closure_ok (ms : List (List Bool)) (α : AH) (v : Value) (h : Mats α v ms) (hl : ms.length ≤ 1000) :
    NCalls Try.prog 13 [v] α (fun r α' => ((∀ x ∈ ms, x.length = ms.length) → MX α.n α' r ms.length ms.length (clM ms.length (matF ms))) ∧ ((¬ ∀ x ∈ ms, x.length = ms.length) → r = .slice none 0 0) ∧ Fr α.n α α') := by
  obtain ⟨mid, moff, ml, midx, mld⟩ := mats_rd h
  refine ncw mixd Try.func13 rfl Try.results13 (by kernel_rfl) ?_
  simp +contextual [ml]
  refine wlp [2, 3, 5] 11 25 (by kernel_rfl) ms.length (fun k t α' => ∃ i, k = ms.length - i ∧ i ≤ ms.length ∧ t 11 = .int .i64 i ∧ MX α.n α' (t 3) i ms.length (matF ms) ∧ (∀ j (hj : j < ms.length), j < i → ms[j].length = ms.length) ∧ Fr α.n α α')
    ⟨0, by omega, by omega, by simp, ⟨[], fun _ => 0, fun _ => 0, .nil, rfl, fun i hi => by omega, fun i j hi => by omega⟩, fun j _ hj => by omega, .refl _ _⟩ ?_
  rintro J hJ k t α1 ⟨i, rfl, hi, t11, hM, hsq, hf⟩
  by_cases ci : i < ms.length
  · have e1 : IntKind.i64.wrap ((i : Int) + 1) = (i : Int) + 1 := w64 (by omega)
    obtain ⟨b, hb, bp⟩ := mld _ hf
    obtain ⟨u, hu, hB⟩ := bp i ci
    obtain ⟨-, -, ul, -⟩ := hB.rd (t := 40) Try.underlying40 sz4
    by_cases cl : ms[i].length = ms.length
    case neg =>
      simp +contextual [t11, ci, midx .i64 i ci, hb (by omega), hu, ul, cl, ml]
      exact ⟨fun h => absurd (h _ (List.getElem_mem ci)) cl, hf⟩
    obtain ⟨vs, ids, cs, h0⟩ := hM
    have fin : ∀ (γ : AH) (r : Value), Ow α1.n 4 boolK γ r ms[i] → Fr α1.n α1 γ → ∃ w α2, aappend Try.prog #[38, 38] (t 3) (.slice (some ⟨γ.n, 0, none⟩) 1 0) (γ.alloc ⟨[r], 40, true⟩) = some (w, α2) ∧
        ∀ s' : AS, s' 11 = .int .i64 ((i : Int) + 1) → s' 3 = w → agn J (ms.length - i) s' α2 := fun γ r ho hg => by
      obtain ⟨id, c, cells, rfl, g1, g2, g3, g4, g5⟩ := ho.mem (by omega)
      rw [cl, show boolK.sz = 1 from rfl, Nat.mul_one] at g4
      obtain ⟨w, α2, p1, p2, p3⟩ := (h0.fr hg).push (i := id) (ci := c) (rb := cells) (g := matF ms i) (by have := hf.n; omega) g2 g3 g4 (fun j hj => by
        have g6 : (cells.drop (j * 1)).take 1 = [.bool (ms[i]'ci)[j]] := g5 j (by omega)
        have := take_get (l := cells) (o := j * 1) (j := 0) g6 (by simp)
        simp [matF, List.getElem?_eq_getElem ci, List.getElem?_eq_getElem (show j < ms[i].length by omega)]
        simpa using this) (by omega) 0 (fun k hk => by have := (h0.row k hk).2.2.1; omega)
      rw [cl]
      refine ⟨w, α2, p1, fun s' s11 s3 => agn_mk (ms.length - (i + 1)) (by omega) (hJ _ _ _ ⟨i + 1, rfl, by omega, by simpa using s11, ?_, fun j hj1 hj2 => ?_, (hf.trans (hg.mono hf.n)).trans p3⟩)⟩
      · rw [s3]; exact p2.congr fun a b _ _ => by split <;> simp_all
      · by_cases hji : j = i
        · subst hji; exact cl
        · exact hsq j hj1 (by omega)
    simp +contextual [t11, ci, midx .i64 i ci, hb (by omega), hu, ul, cl, ml]
    refine (clone_ok _ _ _ hB (by omega)).mono fun r γ hr => ?_
    obtain ⟨ho, hg⟩ := hr
    obtain ⟨ra, rc, rfl⟩ := ho.sl.isSl
    obtain ⟨w, α2, hap, fin⟩ := fin γ _ ho hg
    simp +contextual [hap, t11, e1]
    exact fin _ (by simp) (by simp)
  have : i = ms.length := by omega
  subst this
  have hall : ∀ x ∈ ms, x.length = ms.length := fun x hx => by
    obtain ⟨j, hj, rfl⟩ := List.mem_iff_getElem.1 hx
    exact hsq j hj hj
  obtain ⟨ma, mc, hma⟩ := hM.isSl
  rw [hma] at hM
  simp +contextual [t11, hma]
  refine wlp [6, 7, 8] 28 74 (by kernel_rfl) ms.length (fun k t α' => ∃ i, k = ms.length - i ∧ i ≤ ms.length ∧ t 28 = .int .i64 i ∧ MX α.n α' (.slice ma ms.length mc) ms.length ms.length ((List.range i).foldl (cl3 ms.length) (matF ms)) ∧ Fr α.n α α')
    ⟨0, by omega, by omega, by simp, by simpa using hM, hf⟩ ?_
  rintro J hJ k t2 α2 ⟨b, rfl, hb, t28, hM, hf⟩
  by_cases cb : b < ms.length
  case neg =>
    have : b = ms.length := by omega
    subst this
    simp +contextual [t28, hma]
    exact ⟨fun _ => hM, fun x hx h => absurd (hall x hx) h, hf⟩
  have e1 : IntKind.i64.wrap ((b : Int) + 1) = (b : Int) + 1 := w64 (by omega)
  simp +contextual [t28, cb, hma]
  refine wlp [7, 8] 33 73 (by kernel_rfl) ms.length (fun k t α' => ∃ i, k = ms.length - i ∧ i ≤ ms.length ∧ t 33 = .int .i64 i ∧ MX α.n α' (.slice ma ms.length mc) ms.length ms.length ((List.range i).foldl (cl2 ms.length b) ((List.range b).foldl (cl3 ms.length) (matF ms))) ∧ Fr α.n α α')
    ⟨0, by omega, by omega, by simp, by simpa using hM, hf⟩ ?_
  rintro J2 hJ2 k t3 α3 ⟨a, rfl, ha, t33, hM, hf⟩
  by_cases ca : a < ms.length
  case neg =>
    have : a = ms.length := by omega
    subst this
    simp +contextual [t28, t33, e1]
    exact agn_mk (ms.length - (b + 1)) (by omega) (hJ _ _ _ ⟨b + 1, rfl, by omega, by simp, by rw [fold_succ]; exact hM, hf⟩)
  have e2 : IntKind.i64.wrap ((a : Int) + 1) = (a : Int) + 1 := w64 (by omega)
  simp +contextual [t28, t33, ca, hma]
  refine wlp [8] 38 72 (by kernel_rfl) ms.length (fun k t α' => ∃ i, k = ms.length - i ∧ i ≤ ms.length ∧ t 38 = .int .i64 i ∧ MX α.n α' (.slice ma ms.length mc) ms.length ms.length ((List.range i).foldl (cl1 b a) ((List.range a).foldl (cl2 ms.length b) ((List.range b).foldl (cl3 ms.length) (matF ms)))) ∧ Fr α.n α α')
    ⟨0, by omega, by omega, by simp, by simpa using hM, hf⟩ ?_
  rintro J3 hJ3 k t4 α4 ⟨c, rfl, hc, t38, hM, hf⟩
  by_cases cc : c < ms.length
  case neg =>
    have : c = ms.length := by omega
    subst this
    simp +contextual [t33, t38, e2]
    exact agn_mk (ms.length - (a + 1)) (by omega) (hJ2 _ _ _ ⟨a + 1, rfl, by omega, by simp, by rw [fold_succ]; exact hM, hf⟩)
  have e3 : IntKind.i64.wrap ((c : Int) + 1) = (c : Int) + 1 := w64 (by omega)
  simp +contextual [t28, t33, t38, cc, hma]
  refine wdraw (tks [0, 0, 0, 0, 0, 0, 0, 0, 0, 0, 0, 0, 0, 0, 0, 0, 0, 0, 0, 0, 0, 0, 0, 0, 0, 0, 0, 0, 0, 0, 0] (.pick (.cons 0 (.done) .nil))) (by kernel_rfl) ?_
  generalize hF : (List.range c).foldl (cl1 b a) ((List.range a).foldl (cl2 ms.length b) ((List.range b).foldl (cl3 ms.length) (matF ms))) = F at *
  obtain ⟨o, oc, ro, id, ci, ri, kd, ck, rk, q1, q2, q3, q3', q4, q4', q5, q5', q6, q6', q7, q7', q8, -⟩ := hM.at2 ca cc cb cc
  injection q1 with q1
  subst q1
  have fin : ∀ (s' : AS) (x : Bool), s' 38 = .int .i64 ((c : Int) + 1) → x = (F a c || (F a b && F b c)) → agn J3 (ms.length - c) s' (α4.set id (some ⟨ri.set c (.bool x), 4, true⟩)) := fun s' x h1 h2 =>
    agn_mk (ms.length - (c + 1)) (by omega) (hJ3 _ _ _ ⟨c + 1, rfl, by omega, by simpa using h1, by rw [fold_succ, hF]; subst h2; exact q8 _, hf.set q7 _⟩)
  simp +contextual [t28, t33, t38, hma, ca, cb, cc, q2, q3, q3', q4, q4', q5, q6 c cc, q6 b cb, q6' c cc, e3]
  repeat' refine both.mk (fun _ => ?_) (fun _ => ?_)
  all_goals exact fin _ _ (by simp) (by simp_all)

set_option maxRecDepth 100000 in
set_option maxHeartbeats 1000000 in
theorem rclosure_ok (ms : List (List Bool)) (α : AH) (v : Value) (h : Mats α v ms) (hl : ms.length ≤ 1000) :
    NCalls Try.prog 16 [v] α (fun r α' => ((∀ x ∈ ms, x.length = ms.length) → MX α.n α' r ms.length ms.length (clM ms.length (matF ms))) ∧ ((¬ ∀ x ∈ ms, x.length = ms.length) → r = .slice none 0 0) ∧ Fr α.n α α') := by
  obtain ⟨mid, moff, ml, midx, mld⟩ := mats_rd h
  refine ncw mixd Try.func16 rfl Try.results16 (by kernel_rfl) ?_
  simp +contextual [ml]
  refine wlp [2, 3, 5] 11 26 (by kernel_rfl) ms.length (fun k t α' => ∃ i, k = ms.length - i ∧ i ≤ ms.length ∧ t 11 = .int .i64 i ∧ MX α.n α' (t 3) i ms.length (matF ms) ∧ (∀ j (hj : j < ms.length), j < i → ms[j].length = ms.length) ∧ Fr α.n α α')
    ⟨0, by omega, by omega, by simp, ⟨[], fun _ => 0, fun _ => 0, .nil, rfl, fun i hi => by omega, fun i j hi => by omega⟩, fun j _ hj => by omega, .refl _ _⟩ ?_
  rintro J hJ k t α1 ⟨i, rfl, hi, t11, hM, hsq, hf⟩
  by_cases ci : i < ms.length
  · have e1 : IntKind.i64.wrap ((i : Int) + 1) = (i : Int) + 1 := w64 (by omega)
    obtain ⟨b, hb, bp⟩ := mld _ hf
    obtain ⟨u, hu, hB⟩ := bp i ci
    obtain ⟨-, -, ul, -⟩ := hB.rd (t := 40) Try.underlying40 sz4
    by_cases cl : ms[i].length = ms.length
    case neg =>
      simp +contextual [t11, ci, midx .i64 i ci, hb (by omega), hu, ul, cl, ml]
      exact ⟨fun h => absurd (h _ (List.getElem_mem ci)) cl, hf⟩
    obtain ⟨vs, ids, cs, h0⟩ := hM
    have fin : ∀ (γ : AH) (r : Value), Ow α1.n 4 boolK γ r ms[i] → Fr α1.n α1 γ → ∃ w α2, aappend Try.prog #[38, 38] (t 3) (.slice (some ⟨γ.n, 0, none⟩) 1 0) (γ.alloc ⟨[r], 40, true⟩) = some (w, α2) ∧
        ∀ s' : AS, s' 11 = .int .i64 ((i : Int) + 1) → s' 3 = w → agn J (ms.length - i) s' α2 := fun γ r ho hg => by
      obtain ⟨id, c, cells, rfl, g1, g2, g3, g4, g5⟩ := ho.mem (by omega)
      rw [cl, show boolK.sz = 1 from rfl, Nat.mul_one] at g4
      obtain ⟨w, α2, p1, p2, p3⟩ := (h0.fr hg).push (i := id) (ci := c) (rb := cells) (g := matF ms i) (by have := hf.n; omega) g2 g3 g4 (fun j hj => by
        have g6 : (cells.drop (j * 1)).take 1 = [.bool (ms[i]'ci)[j]] := g5 j (by omega)
        have := take_get (l := cells) (o := j * 1) (j := 0) g6 (by simp)
        simp [matF, List.getElem?_eq_getElem ci, List.getElem?_eq_getElem (show j < ms[i].length by omega)]
        simpa using this) (by omega) 0 (fun k hk => by have := (h0.row k hk).2.2.1; omega)
      rw [cl]
      refine ⟨w, α2, p1, fun s' s11 s3 => agn_mk (ms.length - (i + 1)) (by omega) (hJ _ _ _ ⟨i + 1, rfl, by omega, by simpa using s11, ?_, fun j hj1 hj2 => ?_, (hf.trans (hg.mono hf.n)).trans p3⟩)⟩
      · rw [s3]; exact p2.congr fun a b _ _ => by split <;> simp_all
      · by_cases hji : j = i
        · subst hji; exact cl
        · exact hsq j hj1 (by omega)
    obtain ⟨r, γ, hcp, ho, hg⟩ := cpB hB (by omega)
    obtain ⟨ra, rc, rfl⟩ := ho.sl.isSl
    obtain ⟨w, α2, hap, fin⟩ := fin γ _ ho hg
    rw [cl] at hap
    simp +contextual [t11, ci, midx .i64 i ci, hb (by omega), hu, ul, cl, ml, hcp, hap, e1]
    exact fin _ (by simp) (by simp)
  have : i = ms.length := by omega
  subst this
  have hall : ∀ x ∈ ms, x.length = ms.length := fun x hx => by
    obtain ⟨j, hj, rfl⟩ := List.mem_iff_getElem.1 hx
    exact hsq j hj hj
  obtain ⟨ma, mc, hma⟩ := hM.isSl
  rw [hma] at hM
  simp +contextual [t11, hma]
  refine wlp [6, 7, 8] 29 75 (by kernel_rfl) ms.length (fun k t α' => ∃ i, k = ms.length - i ∧ i ≤ ms.length ∧ t 29 = .int .i64 i ∧ MX α.n α' (.slice ma ms.length mc) ms.length ms.length ((List.range i).foldl (cl3 ms.length) (matF ms)) ∧ Fr α.n α α')
    ⟨0, by omega, by omega, by simp, by simpa using hM, hf⟩ ?_
  rintro J hJ k t2 α2 ⟨b, rfl, hb, t28, hM, hf⟩
  by_cases cb : b < ms.length
  case neg =>
    have : b = ms.length := by omega
    subst this
    simp +contextual [t28, hma]
    exact ⟨fun _ => hM, fun x hx h => absurd (hall x hx) h, hf⟩
  have e1 : IntKind.i64.wrap ((b : Int) + 1) = (b : Int) + 1 := w64 (by omega)
  simp +contextual [t28, cb, hma]
  refine wlp [7, 8] 34 74 (by kernel_rfl) ms.length (fun k t α' => ∃ i, k = ms.length - i ∧ i ≤ ms.length ∧ t 34 = .int .i64 i ∧ MX α.n α' (.slice ma ms.length mc) ms.length ms.length ((List.range i).foldl (cl2 ms.length b) ((List.range b).foldl (cl3 ms.length) (matF ms))) ∧ Fr α.n α α')
    ⟨0, by omega, by omega, by simp, by simpa using hM, hf⟩ ?_
  rintro J2 hJ2 k t3 α3 ⟨a, rfl, ha, t33, hM, hf⟩
  by_cases ca : a < ms.length
  case neg =>
    have : a = ms.length := by omega
    subst this
    simp +contextual [t28, t33, e1]
    exact agn_mk (ms.length - (b + 1)) (by omega) (hJ _ _ _ ⟨b + 1, rfl, by omega, by simp, by rw [fold_succ]; exact hM, hf⟩)
  have e2 : IntKind.i64.wrap ((a : Int) + 1) = (a : Int) + 1 := w64 (by omega)
  simp +contextual [t28, t33, ca, hma]
  refine wlp [8] 39 73 (by kernel_rfl) ms.length (fun k t α' => ∃ i, k = ms.length - i ∧ i ≤ ms.length ∧ t 39 = .int .i64 i ∧ MX α.n α' (.slice ma ms.length mc) ms.length ms.length ((List.range i).foldl (cl1 b a) ((List.range a).foldl (cl2 ms.length b) ((List.range b).foldl (cl3 ms.length) (matF ms)))) ∧ Fr α.n α α')
    ⟨0, by omega, by omega, by simp, by simpa using hM, hf⟩ ?_
  rintro J3 hJ3 k t4 α4 ⟨c, rfl, hc, t38, hM, hf⟩
  by_cases cc : c < ms.length
  case neg =>
    have : c = ms.length := by omega
    subst this
    simp +contextual [t33, t38, e2]
    exact agn_mk (ms.length - (a + 1)) (by omega) (hJ2 _ _ _ ⟨a + 1, rfl, by omega, by simp, by rw [fold_succ]; exact hM, hf⟩)
  have e3 : IntKind.i64.wrap ((c : Int) + 1) = (c : Int) + 1 := w64 (by omega)
  simp +contextual [t28, t33, t38, cc, hma]
  refine wdraw (tks [0, 0, 0, 0, 0, 0, 0, 0, 0, 0, 0, 0, 0, 0, 0, 0, 0, 0, 0, 0, 0, 0, 0, 0, 0, 0, 0, 0, 0, 0, 0] (.pick (.cons 0 (.done) .nil))) (by kernel_rfl) ?_
  generalize hF : (List.range c).foldl (cl1 b a) ((List.range a).foldl (cl2 ms.length b) ((List.range b).foldl (cl3 ms.length) (matF ms))) = F at *
  obtain ⟨o, oc, ro, id, ci, ri, kd, ck, rk, q1, q2, q3, q3', q4, q4', q5, q5', q6, q6', q7, q7', q8, -⟩ := hM.at2 ca cc cb cc
  injection q1 with q1
  subst q1
  have fin : ∀ (s' : AS) (x : Bool), s' 39 = .int .i64 ((c : Int) + 1) → x = (F a c || (F a b && F b c)) → agn J3 (ms.length - c) s' (α4.set id (some ⟨ri.set c (.bool x), 4, true⟩)) := fun s' x h1 h2 =>
    agn_mk (ms.length - (c + 1)) (by omega) (hJ3 _ _ _ ⟨c + 1, rfl, by omega, by simpa using h1, by rw [fold_succ, hF]; subst h2; exact q8 _, hf.set q7 _⟩)
  simp +contextual [t28, t33, t38, hma, ca, cb, cc, q2, q3, q3', q4, q4', q5, q6 c cc, q6 b cb, q6' c cc, e3]
  repeat' refine both.mk (fun _ => ?_) (fun _ => ?_)
  all_goals exact fin _ _ (by simp) (by simp_all)
end Go.Proofs.Ytggkeldedennfaa

set_option linter.unusedVariables false
set_option linter.unusedSimpArgs false
namespace Go.Proofs.Ytggkeldedennfaa
open Go Go.RowKit Go.Lay Go.Nod

theorem bools_rd {α : AH} {v : Value} {xs : List Bool} (h : Bools α v xs) : ∃ id off, alen Try.prog #[40] v = some (.int .i64 (xs.length : Int)) ∧
    (∀ (k : IntKind) (i : Nat), i < xs.length → aindexAddr Try.prog 40 v (.int k (i : Int)) = some (.pointer (some ⟨id, off + i, none⟩))) ∧
    ∀ β, Fr α.n α β → ∃ b, (0 < xs.length → β.get id = some b) ∧ ∀ (i : Nat) (hi : i < xs.length), b.cells[off + i]? = some (.bool xs[i]) := by
  obtain ⟨id, off, a1, a2, a3⟩ := h.rd1 (t := 40) Try.underlying40 sz4
  refine ⟨id, off, a1, fun k i hi => by have := a2 k i hi; rw [show boolK.sz = 1 from rfl, Nat.mul_one] at this; exact this, fun β hf => ?_⟩
  obtain ⟨b, b1, b2⟩ := a3 β hf
  refine ⟨b, b1, fun i hi => ?_⟩
  obtain ⟨b3, b4⟩ := b2 i hi
  rw [show boolK.sz = 1 from rfl, Nat.mul_one] at b4
  exact take_get b4 (j := 0) (by simp)

set_option maxRecDepth 100000 in
theorem sameB_ok (xs ys : List Bool) (α : AH) (v u : Value) (h : Bools α v xs) (k : Bools α u ys) (hl : xs.length ≤ 1000000000000) :
    NCalls Try.prog 41 [v, u] α (fun r α' => r = .bool (decide (xs = ys)) ∧ α' = α) := by
  obtain ⟨xi, xo, xl, xidx, xld⟩ := bools_rd h
  obtain ⟨yi, yo, yl, yidx, yld⟩ := bools_rd k
  obtain ⟨b, hb, bp⟩ := xld _ (.refl _ _)
  obtain ⟨b', hb', bp'⟩ := yld _ (.refl _ _)
  refine ncw mixd Try.func41 rfl Try.results41 (by kernel_rfl) ?_
  by_cases c1 : xs.length = ys.length
  case neg => simp [xl, yl, c1]; intro h; exact c1 (by rw [h])
  simp [xl, yl, c1]
  refine wlp [4, 5] 11 25 (by kernel_rfl) xs.length (fun k t α' => ∃ i, k = xs.length - i ∧ i ≤ xs.length ∧ t 5 = .int .i64 i ∧ α' = α ∧ xs.take i = ys.take i) ⟨0, by omega, by omega, by simp, rfl, by simp⟩ ?_
  rintro J hJ k t α1 ⟨i, rfl, hi, t5, rfl, ht⟩
  by_cases ci : i < xs.length
  · have ci' : i < ys.length := by omega
    have e1 : IntKind.i64.wrap ((i : Int) + 1) = (i : Int) + 1 := w64 (by omega)
    simp [t5, xl, ci, ci', c1]
    refine wdraw (tks [0, 0, 0, 0, 0, 0, 0, 0, 0] (.done)) (by kernel_rfl) ?_
    by_cases he : xs[i] = ys[i]
    · simp [t5, xidx .i64 i ci, yidx .i64 i ci', hb (by omega), hb' (by omega), bp i ci, bp' i ci', he, e1]
      exact agn_mk (xs.length - (i + 1)) (by omega) (hJ _ _ _ ⟨i + 1, rfl, by omega, by simp, rfl, tk_next ht ci ci' he⟩)
    · simp [t5, xidx .i64 i ci, yidx .i64 i ci', hb (by omega), hb' (by omega), bp i ci, bp' i ci', he]
      intro h; subst h; exact he rfl
  · have : i = xs.length := by omega
    have ci' : ¬ i < ys.length := by omega
    simp [t5, xl, ci, ci', c1, tk_all ht this c1]

set_option maxRecDepth 100000 in
theorem matrix_ok (xs ys : List (List Bool)) (α : AH) (v u : Value) (h : Mats α v xs) (k : Mats α u ys) (hl : xs.length ≤ 1000000000000) (hr : ∀ x ∈ xs, x.length ≤ 1000000000000) :
    NCalls Try.prog 12 [v, u] α (fun r α' => r = .bool (decide (xs = ys)) ∧ α' = α) := by
  obtain ⟨xi, xo, xl, xidx, xld⟩ := mats_rd h
  obtain ⟨yi, yo, yl, yidx, yld⟩ := mats_rd k
  obtain ⟨b, hb, bp⟩ := xld _ (.refl _ _)
  obtain ⟨b', hb', bp'⟩ := yld _ (.refl _ _)
  refine ncw mixd Try.func12 rfl Try.results12 (by kernel_rfl) ?_
  by_cases c1 : xs.length = ys.length
  case neg => simp [xl, yl, c1]; intro h; exact c1 (by rw [h])
  simp [xl, yl, c1]
  refine wlp [4, 5] 13 26 (by kernel_rfl) xs.length (fun k t α' => ∃ i, k = xs.length - i ∧ i ≤ xs.length ∧ t 13 = .int .i64 i ∧ α' = α ∧ xs.take i = ys.take i) ⟨0, by omega, by omega, by simp, rfl, by simp⟩ ?_
  rintro J hJ k t α1 ⟨i, rfl, hi, t13, rfl, ht⟩
  by_cases ci : i < xs.length
  · have ci' : i < ys.length := by omega
    have ci2 : (i : Int) < ys.length := by omega
    obtain ⟨p, p1, p2⟩ := bp i ci
    obtain ⟨q, q1, q2⟩ := bp' i ci'
    have e1 : IntKind.i64.wrap ((i : Int) + 1) = (i : Int) + 1 := w64 (by omega)
    simp [t13, ci, ci']
    refine wdraw (tks [0, 0, 0, 0, 0, 0, 0, 0] (.pick (.cons 0 (.take 0 (.done)) .nil))) (by kernel_rfl) ?_
    simp [t13, xidx .i64 i ci, yidx .i64 i ci', hb (by omega), hb' (by omega), p1, q1]
    refine (sameB_ok _ _ _ _ _ p2 q2 (hr _ (List.getElem_mem ci))).mono fun r β hr => ?_
    obtain ⟨rfl, rfl⟩ := hr
    by_cases he : xs[i] = ys[i]
    · simp [he, t13, e1]
      exact agn_mk (xs.length - (i + 1)) (by omega) (hJ _ _ _ ⟨i + 1, rfl, by omega, by simp, rfl, tk_next ht ci ci' he⟩)
    · simp [he]
      intro h; subst h; exact he rfl
  · have : i = xs.length := by omega
    have ci' : ¬ i < ys.length := by omega
    simp [t13, ci, ci', tk_all ht this c1]

def frM (c : Cf) (a b : Int) : Bool := decide (-1 ≤ a ∧ -1 ≤ b ∧ a < c.parts.length ∧ b < c.parts.length) && (decide (a = -1) || decide (b = -1) || !(depM c a.toNat b.toNat))
set_option maxRecDepth 100000 in
set_option maxHeartbeats 1000000 in
theorem free_ok (vp vc vt : Value) (c : Cf) (a b : Int) (α : AH) (h : IsCfg α (.agg #[vp, vc, vt]) c) (hl : c.parts.length ≤ 1000) (hlc : c.chans.length ≤ 1000000000) :
    NCalls Try.prog 19 [.agg #[vp, vc, vt], .int .i64 a, .int .i64 b] α (fun v α' => v = .bool (frM c a b) ∧ Fr α.n α α') := by
  have h0 := h
  obtain ⟨_, _, _, he, h1, h2, h3⟩ := h
  cases he
  obtain ⟨pid, poff, pl, -⟩ := part_rd h1
  refine ncw mixd Try.func19 rfl Try.results19 (by kernel_rfl) ?_
  by_cases c1 : a < -1
  · simp [h1.isCell, h2.isCell, h3.isCell, pl, c1, frM, show ¬ -1 ≤ a by omega]
  by_cases c2 : b < -1
  · simp [h1.isCell, h2.isCell, h3.isCell, pl, c1, c2, frM, show ¬ -1 ≤ b by omega]
  by_cases c3 : c.parts.length ≤ a
  · simp [h1.isCell, h2.isCell, h3.isCell, pl, c1, c2, c3, frM, show ¬ a < c.parts.length by omega]
  by_cases c4 : c.parts.length ≤ b
  · simp [h1.isCell, h2.isCell, h3.isCell, pl, c1, c2, c3, c4, frM, show ¬ b < (c.parts.length : Int) by omega]
  have hr : -1 ≤ a ∧ -1 ≤ b ∧ a < c.parts.length ∧ b < c.parts.length := by omega
  by_cases d1 : a = -1
  · simp [h1.isCell, h2.isCell, h3.isCell, pl, c1, c2, c3, c4, d1, frM, hr, show ¬ (c.parts.length : Int) ≤ -1 by omega, show (-1 : Int) < c.parts.length by omega]
  by_cases d2 : b = -1
  · simp [h1.isCell, h2.isCell, h3.isCell, pl, c1, c2, c3, c4, d1, d2, frM, hr, show ¬ (c.parts.length : Int) ≤ -1 by omega, show (-1 : Int) < c.parts.length by omega]
  simp [h1.isCell, h2.isCell, h3.isCell, pl, c1, c2, c3, c4, d1, d2]
  refine (depends_ok vp vc vt c _ (h0.fr (Fr.alloc0 _ _)) hl hlc).mono fun m β hm => ?_
  obtain ⟨hM, hf⟩ := hm
  obtain ⟨x, rfl⟩ := Int.eq_ofNat_of_zero_le (show 0 ≤ a by omega)
  obtain ⟨y, rfl⟩ := Int.eq_ofNat_of_zero_le (show 0 ≤ b by omega)
  have hx : x < c.parts.length := by omega
  have hy : y < c.parts.length := by omega
  obtain ⟨o, cc, ro, id, ci', rr, rfl, q2, q3, q4, q5, q6, -⟩ := hM.at hx hy
  simp [hx, hy, q2, q3, q4, q6, frM, (Fr.alloc0 _ _).up hf]

set_option maxRecDepth 100000 in
set_option maxHeartbeats 1000000 in
theorem rfree_ok (vp vc vt : Value) (c : Cf) (a b : Int) (α : AH) (h : IsCfg α (.agg #[vp, vc, vt]) c) (hl : c.parts.length ≤ 1000) (hlc : c.chans.length ≤ 1000000000) :
    NCalls Try.prog 38 [.agg #[vp, vc, vt], .int .i64 a, .int .i64 b] α (fun v α' => v = .bool (frM c a b) ∧ Fr α.n α α') := by
  have h0 := h
  obtain ⟨_, _, _, he, h1, h2, h3⟩ := h
  cases he
  have hF1 := Fr.alloc0 α ⟨[vp, vc, vt], 26, true⟩
  have hg1 := AH.alloc_get α ⟨[vp, vc, vt], 26, true⟩
  have hn1 := AH.alloc_n α ⟨[vp, vc, vt], 26, true⟩
  have rb : ∀ γ, Fr (α.alloc ⟨[vp, vc, vt], 26, true⟩).n (α.alloc ⟨[vp, vc, vt], 26, true⟩) γ → γ.get α.n = some ⟨[vp, vc, vt], 26, true⟩ := fun γ hγ => by rw [hγ.get _ (by omega)]; exact hg1
  refine ncw mixd Try.func38 rfl Try.results38 (by kernel_rfl) ?_
  -- what follows behind both tests
  have fin : ∀ (s : AS) (γ : AH), Fr (α.alloc ⟨[vp, vc, vt], 26, true⟩).n (α.alloc ⟨[vp, vc, vt], 26, true⟩) γ → -1 ≤ a ∧ -1 ≤ b ∧ a < c.parts.length ∧ b < c.parts.length → a ≠ -1 → b ≠ -1 →
      NCalls Try.prog 36 [.agg #[vp, vc, vt]] γ (fun m β => ∃ x y : Nat, a = (x : Int) ∧ b = (y : Int) ∧ x < c.parts.length ∧ y < c.parts.length ∧ MX γ.n β m c.parts.length c.parts.length (depM c) ∧ Fr γ.n γ β) := fun s γ hγ hr d1 d2 => by
    refine (rdepends_ok vp vc vt c _ ((h0.fr hF1).fr hγ) hl hlc).mono fun m β hm => ?_
    obtain ⟨x, hx⟩ := Int.eq_ofNat_of_zero_le (show 0 ≤ a by omega)
    obtain ⟨y, hy⟩ := Int.eq_ofNat_of_zero_le (show 0 ≤ b by omega)
    exact ⟨x, y, hx, hy, by omega, by omega, hm⟩
  by_cases d1 : a = -1
  · by_cases d2 : b = -1
    · simp [h1.isCell, h2.isCell, h3.isCell, d1, d2, frM]; omega
    simp [h1.isCell, h2.isCell, h3.isCell, d1, d2]
    refine (in_ok _ vp vc vt c _ (h0.fr hF1)).mono fun r γ hr => ?_
    obtain ⟨rfl, hg⟩ := hr
    by_cases i2 : 0 ≤ b ∧ b < c.parts.length
    · simp [d1, d2, i2, frM, hF1.up hg]; omega
    · simp [d1, d2, i2, frM, hF1.up hg]; omega
  simp [h1.isCell, h2.isCell, h3.isCell, d1]
  refine (in_ok _ vp vc vt c _ (h0.fr hF1)).mono fun r γ hr => ?_
  obtain ⟨rfl, hg⟩ := hr
  by_cases i1 : 0 ≤ a ∧ a < c.parts.length
  case neg => simp [d1, i1, frM, hF1.up hg]; omega
  by_cases d2 : b = -1
  · simp [d1, d2, i1, frM, hF1.up hg]; omega
  simp [i1, d1, d2, rb _ hg]
  refine (in_ok _ vp vc vt c _ ((h0.fr hF1).fr hg)).mono fun r δ hr => ?_
  obtain ⟨rfl, hd⟩ := hr
  by_cases i2 : 0 ≤ b ∧ b < c.parts.length
  case neg => simp [d1, d2, i1, i2, frM, hF1.up (hg.up hd)]; omega
  simp [d1, d2, i1, i2, rb _ (hg.up hd)]
  refine (fin (fun _ => undef) _ (hg.up hd) (by omega) d1 d2).mono fun m β hm => ?_
  obtain ⟨x, y, rfl, rfl, hx, hy, hM, hf⟩ := hm
  obtain ⟨o, cc, ro, id, ci', rr, rfl, q2, q3, q4, q5, q6, -⟩ := hM.at hx hy
  simp [hx, hy, q2, q3, q4, q6, frM, hF1.up ((hg.up hd).up hf)]
end Go.Proofs.Ytggkeldedennfaa

set_option linter.unusedVariables false
set_option linter.unusedSimpArgs false
namespace Go.Proofs.Ytggkeldedennfaa
open Go Go.RowKit Go.Lay Go.Nod

abbrev OwI (N : Nat) (α : AH) (v : Value) (xs : List Int) : Prop := Ow N 3 (intK .i64) α v xs
/-! ### functions that are alike where it matters -/
def Eon (n : Nat) (f g : Nat → Nat → Bool) : Prop := ∀ i j, i < n → j < n → f i j = g i j
theorem Eon.fold {n : Nat} {h k : (Nat → Nat → Bool) → Nat → (Nat → Nat → Bool)} (hs : ∀ f g i, i < n → Eon n f g → Eon n (h f i) (k g i)) : ∀ (m : Nat), m ≤ n → ∀ f g, Eon n f g → Eon n ((List.range m).foldl h f) ((List.range m).foldl k g)
  | 0, _, f, g, e => e
  | m + 1, hm, f, g, e => by rw [fold_succ, fold_succ]; exact hs _ _ m (by omega) (Eon.fold hs m (by omega) f g e)
theorem Eon.clM {n : Nat} {f g : Nat → Nat → Bool} (h : Eon n f g) : Eon n (clM n f) (clM n g) :=
  Eon.fold (fun f g b hb e => Eon.fold (fun f g a ha e => Eon.fold (fun f g c hc e i j hi hj => by simp only [cl1, upd2]; split <;> simp [e _ _ ha hc, e _ _ ha hb, e _ _ hb hc, e _ _ hi hj]) n (Nat.le_refl _) f g e) n (Nat.le_refl _) f g e) n (Nat.le_refl _) f g h
theorem rmat_len {r n : Nat} {f : Nat → Nat → Bool} : (rmat r n f).length = r := by simp [rmat]
theorem rmat_all {r n : Nat} {f : Nat → Nat → Bool} : ∀ x ∈ rmat r n f, x.length = n := fun x hx => by simp [rmat] at hx; obtain ⟨a, _, rfl⟩ := hx; simp
theorem matF_rmat {r n : Nat} {f : Nat → Nat → Bool} {i j : Nat} (hi : i < r) (hj : j < n) : matF (rmat r n f) i j = f i j := by simp [matF, rmat, hi, hj]
theorem clM_rmat (n : Nat) (f : Nat → Nat → Bool) : Eon n (clM n (matF (rmat n n f))) (clM n f) := Eon.clM fun _ _ hi hj => matF_rmat hi hj
/-- Closure of a square of one's own. -/
theorem closureM_ok {N : Nat} {n : Nat} {f : Nat → Nat → Bool} {α : AH} {v : Value} (h : MX N α v n n f) (hl : n ≤ 1000) : NCalls Try.prog 13 [v] α (fun r α' => MX α.n α' r n n (clM n f) ∧ Fr α.n α α') := by
  refine (closure_ok _ α v h.sl (by rw [rmat_len]; exact hl)).mono fun r β ⟨h1, _, h3⟩ => ?_
  have := h1 fun x hx => by rw [rmat_len]; exact rmat_all x hx
  rw [rmat_len] at this
  exact ⟨this.congr fun a b ha hb => clM_rmat n f a b ha hb, h3⟩
theorem rclosureM_ok {N : Nat} {n : Nat} {f : Nat → Nat → Bool} {α : AH} {v : Value} (h : MX N α v n n f) (hl : n ≤ 1000) : NCalls Try.prog 16 [v] α (fun r α' => MX α.n α' r n n (clM n f) ∧ Fr α.n α α') := by
  refine (rclosure_ok _ α v h.sl (by rw [rmat_len]; exact hl)).mono fun r β ⟨h1, _, h3⟩ => ?_
  have := h1 fun x hx => by rw [rmat_len]; exact rmat_all x hx
  rw [rmat_len] at this
  exact ⟨this.congr fun a b ha hb => clM_rmat n f a b ha hb, h3⟩

set_option maxRecDepth 100000 in
theorem clip_ok {N : Nat} (xs : List Int) (α : AH) (v : Value) (h : OwI N α v xs) : NCalls Try.prog 45 [v] α (fun r α' => OwI N α r xs ∧ α' = α) := by
  rcases h with ⟨rfl, rfl⟩ | ⟨id, c, b, rfl, h2, h3, h4, h5, h6, h7, h8⟩
  · refine ncw mixd Try.func45 rfl Try.results45 (by kernel_rfl) ?_
    simp [aslice]
    exact .nil
  · refine ncw mixd Try.func45 rfl Try.results45 (by kernel_rfl) ?_
    simp [aslice, h4, h5]
    exact .inr ⟨id, 0, b, rfl, h2, h3, h4, h5, h6, h7, h8⟩

def rcL (c : Cf) (p : Int) (m : Nat) : List Int := ((List.range m).filter fun a => clM c.parts.length (swM c) a p.toNat).map Int.ofNat
def rcM (c : Cf) (p : Int) : List Int := if 0 ≤ p ∧ p < c.parts.length then rcL c p c.parts.length else []
theorem rcL_len (c : Cf) (p : Int) (m : Nat) : (rcL c p m).length ≤ m := by
  have := List.length_filter_le (fun a => clM c.parts.length (swM c) a p.toNat) (List.range m)
  simp only [List.length_range] at this
  simpa [rcL] using this
theorem rcL_succ (c : Cf) (p : Int) (m : Nat) : rcL c p (m + 1) = if clM c.parts.length (swM c) m p.toNat = true then rcL c p m ++ [(m : Int)] else rcL c p m := by
  simp only [rcL, List.range_succ, List.filter_append, List.map_append]
  cases h : clM c.parts.length (swM c) m p.toNat <;> simp [h]

set_option maxRecDepth 100000 in
set_option maxHeartbeats 1000000 in
theorem reach_ok (vp vc vt : Value) (c : Cf) (p : Int) (α : AH) (h : IsCfg α (.agg #[vp, vc, vt]) c) (hl : c.parts.length ≤ 1000) (hlc : c.chans.length ≤ 1000000000) :
    NCalls Try.prog 21 [.agg #[vp, vc, vt], .int .i64 p] α (fun v α' => OwI α.n α' v (rcM c p) ∧ Fr α.n α α') := by
  have h0 := h
  obtain ⟨_, _, _, he, h1, h2, h3⟩ := h
  cases he
  have hF1 := Fr.alloc0 α ⟨[vp, vc, vt], 26, true⟩
  have hg1 := AH.alloc_get α ⟨[vp, vc, vt], 26, true⟩
  have hn1 := AH.alloc_n α ⟨[vp, vc, vt], 26, true⟩
  refine ncw mixd Try.func21 rfl Try.results21 (by kernel_rfl) ?_
  simp [h1.isCell, h2.isCell, h3.isCell]
  generalize α.alloc _ = α1 at *
  have rb : ∀ γ, Fr α1.n α1 γ → γ.get α.n = some ⟨[vp, vc, vt], 26, true⟩ := fun γ hγ => by rw [hγ.get _ (by omega)]; exact hg1
  refine (is_ok _ vp vc vt c _ (h0.fr hF1)).mono fun r γ hr => ?_
  obtain ⟨rfl, hg⟩ := hr
  by_cases i1 : 0 ≤ p ∧ p < c.parts.length
  case neg =>
    simp [i1, rcM, hF1.up hg]
    exact .nil
  simp [i1, rb _ hg]
  refine (sways_ok vp vc vt c _ ((h0.fr hF1).fr hg) hl hlc).mono fun m β hm => ?_
  obtain ⟨hM, hf⟩ := hm
  simp
  refine (closureM_ok hM hl).mono fun r δ hr => ?_
  obtain ⟨hM, hd⟩ := hr
  obtain ⟨ma, mc, rfl⟩ := hM.isSl
  obtain ⟨q, rfl⟩ := Int.eq_ofNat_of_zero_le i1.1
  have hq : q < c.parts.length := by omega
  have hff := hF1.up ((hg.up hf).up hd)
  have hln : β.n ≤ δ.n := hd.n
  simp
  refine wlp [5, 6, 7] 16 29 (by kernel_rfl) c.parts.length (fun k t α' => ∃ i, k = c.parts.length - i ∧ i ≤ c.parts.length ∧ t 16 = .int .i64 i ∧ OwI δ.n α' (t 5) (rcL c q i) ∧ Fr δ.n δ α')
    ⟨0, by omega, by omega, by simp, by simp [rcL]; exact .nil, .refl _ _⟩ ?_
  rintro J hJ k t ε ⟨i, rfl, hi, t16, ho, hf'⟩
  by_cases ci : i < c.parts.length
  · obtain ⟨o, cc, ro, id, ci', rr, q1, q2, q3, q4, q5, q6, -⟩ := (hM.fr hf').at ci hq
    injection q1 with q1
    subst q1
    have := rcL_len c q i
    obtain ⟨v', α2, p1, p2, p3, -⟩ := ho.push el28 hf'.n (x := (i : Int)) (c := [.int .i64 (i : Int)]) rfl (intK_apart _ _) (by omega) 0
    have e1 : IntKind.i64.wrap ((i : Int) + 1) = (i : Int) + 1 := w64 (by omega)
    by_cases cm : clM c.parts.length (swM c) i q = true
    · simp [t16, ci, hq, q2, q3, q4, q6, cm, p1, e1]
      exact agn_mk (c.parts.length - (i + 1)) (by omega) (hJ _ _ _ ⟨i + 1, rfl, by omega, by simp, by rw [rcL_succ, if_pos (by simpa using cm)]; exact p2, hf'.trans p3⟩)
    · simp [t16, ci, hq, q2, q3, q4, q6, cm, e1]
      exact agn_mk (c.parts.length - (i + 1)) (by omega) (hJ _ _ _ ⟨i + 1, rfl, by omega, by simp, by rw [rcL_succ, if_neg (by simpa using cm)]; exact ho, hf'⟩)
  · have : i = c.parts.length := by omega
    subst this
    simp [t16]
    refine (clip_ok _ _ _ ho).mono fun r ζ hr => ?_
    obtain ⟨ho, rfl⟩ := hr
    simp
    refine ⟨?_, hff.up hf'⟩
    rw [rcM, if_pos i1]
    exact ho.mono hff.n

set_option maxRecDepth 100000 in
set_option maxHeartbeats 1000000 in
theorem rreach_ok (vp vc vt : Value) (c : Cf) (p : Int) (α : AH) (h : IsCfg α (.agg #[vp, vc, vt]) c) (hl : c.parts.length ≤ 1000) (hlc : c.chans.length ≤ 1000000000) :
    NCalls Try.prog 40 [.agg #[vp, vc, vt], .int .i64 p] α (fun v α' => OwI α.n α' v (rcM c p) ∧ Fr α.n α α') := by
  have h0 := h
  obtain ⟨_, _, _, he, h1, h2, h3⟩ := h
  cases he
  have hF1 := Fr.alloc0 α ⟨[vp, vc, vt], 26, true⟩
  have hg1 := AH.alloc_get α ⟨[vp, vc, vt], 26, true⟩
  have hn1 := AH.alloc_n α ⟨[vp, vc, vt], 26, true⟩
  refine ncw mixd Try.func40 rfl Try.results40 (by kernel_rfl) ?_
  simp [h1.isCell, h2.isCell, h3.isCell]
  generalize α.alloc _ = α1 at *
  have rb : ∀ γ, Fr α1.n α1 γ → γ.get α.n = some ⟨[vp, vc, vt], 26, true⟩ := fun γ hγ => by rw [hγ.get _ (by omega)]; exact hg1
  refine (rsways_ok vp vc vt c _ (h0.fr hF1) hl hlc).mono fun m β hm => ?_
  obtain ⟨hM, hf⟩ := hm
  simp
  refine (rclosureM_ok hM hl).mono fun r δ hr => ?_
  obtain ⟨hM, hd⟩ := hr
  obtain ⟨ma, mc, rfl⟩ := hM.isSl
  have hff := hF1.up (hf.up hd)
  have hln : β.n ≤ δ.n := hd.n
  simp
  refine wlp [5, 7] 11 32 (by kernel_rfl) c.parts.length (fun k t α' => ∃ i, k = c.parts.length - i ∧ i ≤ c.parts.length ∧ (0 < i → 0 ≤ p ∧ p < c.parts.length) ∧ t 7 = .int .i64 i ∧ OwI δ.n α' (t 5) (rcL c p i) ∧ Fr δ.n δ α')
    ⟨0, by omega, by omega, by omega, by simp, by simp [rcL]; exact .nil, .refl _ _⟩ ?_
  rintro J hJ k t ε ⟨i, rfl, hi, hin, t7, ho, hf'⟩
  have h1n : α1.n ≤ δ.n := Nat.le_trans hf.n hd.n
  have hfe := (hf.up hd).up hf'
  by_cases ci : i < c.parts.length
  · simp [t7, ci, rb _ hfe]
    refine (in_ok _ vp vc vt c _ ((h0.fr hF1).fr hfe)).mono fun r γ hr => ?_
    obtain ⟨rfl, hg⟩ := hr
    have hfg := hf'.trans (hg.mono hf'.n)
    have ho' := ho.fr hg
    by_cases i1 : 0 ≤ p ∧ p < c.parts.length
    case neg =>
      have : i = 0 := by omega
      subst this
      simp [i1, t7, rcM, hff.up hfg]
      simpa [rcL] using ho'.mono hff.n
    obtain ⟨q, rfl⟩ := Int.eq_ofNat_of_zero_le i1.1
    have hq : q < c.parts.length := by omega
    obtain ⟨o, cc, ro, id, ci', rr, q1, q2, q3, q4, q5, q6, -⟩ := (hM.fr hfg).at ci hq
    injection q1 with q1
    subst q1
    have := rcL_len c q i
    obtain ⟨v', α2, p1, p2, p3, -⟩ := ho'.push el28 hfg.n (x := (i : Int)) (c := [.int .i64 (i : Int)]) rfl (intK_apart _ _) (by omega) 0
    have e1 : IntKind.i64.wrap ((i : Int) + 1) = (i : Int) + 1 := w64 (by omega)
    by_cases cm : clM c.parts.length (swM c) i q = true
    · simp [t7, ci, hq, q2, q3, q4, q6, cm, p1, e1]
      exact agn_mk (c.parts.length - (i + 1)) (by omega) (hJ _ _ _ ⟨i + 1, rfl, by omega, fun _ => i1, by simp, by rw [rcL_succ, if_pos (by simpa using cm)]; exact p2, hfg.trans p3⟩)
    · simp [t7, ci, hq, q2, q3, q4, q6, cm, e1]
      exact agn_mk (c.parts.length - (i + 1)) (by omega) (hJ _ _ _ ⟨i + 1, rfl, by omega, fun _ => i1, by simp, by rw [rcL_succ, if_neg (by simpa using cm)]; exact ho', hfg⟩)
  · have : i = c.parts.length := by omega
    subst this
    simp [t7, hff.up hf']
    by_cases i1 : 0 ≤ p ∧ p < c.parts.length
    · rw [rcM, if_pos i1]; exact ho.mono hff.n
    · have h0 : c.parts.length = 0 := by omega
      rw [rcM, if_neg i1]
      rw [h0] at ho
      simpa [rcL] using ho.mono hff.n
end Go.Proofs.Ytggkeldedennfaa

set_option linter.unusedVariables false
set_option linter.unusedSimpArgs false
namespace Go.Nod
def big : Int := 9223372036854775807
def pos0 (a : Int) : Int := if a < 0 then 0 else a
def sumM (a b : Int) : Int := if big - pos0 b < pos0 a then big else pos0 a + pos0 b
theorem sumM_bd (a b : Int) (ha : a ≤ big) : 0 ≤ sumM a b ∧ sumM a b ≤ big := by unfold sumM pos0 big at *; (repeat' split) <;> omega
def totM (xs : List Rn) : Int := xs.foldl (fun n r => sumM n r.n) 0
def tdS (out : List Rn) (r : Rn) : List Rn :=
  if r.n < 1 then out else match out.getLast? with
  | some q => if q.p = r.p then out.dropLast ++ [⟨q.p, sumM q.n r.n⟩] else out ++ [r]
  | none => [r]
def tidyM (xs : List Rn) : List Rn := xs.foldl tdS []
theorem tdS_len (out : List Rn) (r : Rn) : (tdS out r).length ≤ out.length + 1 := by
  unfold tdS
  split
  · omega
  · split
    · split <;> simp
    · simp
theorem tidy_len (xs : List Rn) : (tidyM xs).length ≤ xs.length := by
  suffices ∀ (ys out : List Rn), (ys.foldl tdS out).length ≤ out.length + ys.length by simpa [tidyM] using this xs []
  intro ys
  induction ys with
  | nil => intro out; simp
  | cons y ys ih => intro out; have h1 := ih (tdS out y); have h2 := tdS_len out y; simp only [List.foldl_cons, List.length_cons]; omega
/-- whole numbers of 64 bits -/
def ok64 (n : Int) : Prop := -9223372036854775808 ≤ n ∧ n ≤ big
end Go.Nod
namespace Go.Proofs.Ytggkeldedennfaa
open Go Go.RowKit Go.Lay Go.Nod

set_option maxRecDepth 100000 in
theorem sum_ok (a b : Int) (α : AH) (ha : a ≤ big) (hb : b ≤ big) : NCalls Try.prog 69 [.int .i64 a, .int .i64 b] α (fun v α' => v = .int .i64 (sumM a b) ∧ α' = α) := by
  refine ncw mixd Try.func69 rfl Try.results69 (by kernel_rfl) ?_
  have e1 : (if 0 > a then (0 : Int) else a) = pos0 a := rfl
  have e2 : (if 0 > b then (0 : Int) else b) = pos0 b := rfl
  have h1 : 0 ≤ pos0 a ∧ pos0 a ≤ big := by unfold pos0 big at *; split <;> omega
  have h2 : 0 ≤ pos0 b ∧ pos0 b ≤ big := by unfold pos0 big at *; split <;> omega
  simp only [gt_iff_lt] at e1 e2
  unfold big at h1 h2
  simp [e1, e2]
  have e3 : IntKind.i64.wrap (9223372036854775807 - pos0 b) = 9223372036854775807 - pos0 b := w64 (by omega)
  by_cases c : 9223372036854775807 - pos0 b < pos0 a
  · simp [e3, c, sumM, big]
  · have e4 : IntKind.i64.wrap (pos0 a + pos0 b) = pos0 a + pos0 b := w64 (by omega)
    simp [e3, e4, c, sumM, big]

set_option maxRecDepth 100000 in
theorem total_ok (xs : List Rn) (α : AH) (v : Value) (h : Runs α v xs) (hb : ∀ x ∈ xs, x.n ≤ big) (hl : xs.length ≤ 1000000000000) :
    NCalls Try.prog 55 [v] α (fun r α' => r = .int .i64 (totM xs) ∧ Fr α.n α α') := by
  obtain ⟨xi, xo, xl, xidx, xld⟩ := h.rdf (t := 84) Try.underlying84 sz102
  refine ncw mixd Try.func55 rfl Try.results55 (by kernel_rfl) ?_
  simp [xl]
  refine wlp [3, 5] 8 16 (by kernel_rfl) xs.length (fun k t α' => ∃ (i : Nat) (n : Int), k = xs.length - i ∧ i ≤ xs.length ∧ t 8 = .int .i64 i ∧ t 3 = .int .i64 n ∧ n = (xs.take i).foldl (fun n r => sumM n r.n) 0 ∧ n ≤ big ∧ Fr α.n α α')
    ⟨0, 0, by omega, by omega, by simp, by simp, rfl, by decide, .refl _ _⟩ ?_
  rintro J hJ k t α1 ⟨i, n, rfl, hi, t8, t3, hn, hnb, hf⟩
  by_cases ci : i < xs.length
  · obtain ⟨b, hb', bp⟩ := xld _ hf
    obtain ⟨b1, b2, -⟩ := bp i ci
    simp only [Rn.enc] at b2
    have e1 : IntKind.i64.wrap ((i : Int) + 1) = (i : Int) + 1 := w64 (by omega)
    simp [t8, t3, ci, xidx .i64 i ci, hb' (by omega), b1, b2, aalloc]
    refine (sum_ok _ _ _ hnb (hb _ (List.getElem_mem ci))).mono fun r β hr => ?_
    obtain ⟨rfl, rfl⟩ := hr
    simp [t8, e1]
    refine agn_mk (xs.length - (i + 1)) (by omega) (hJ _ _ _ ⟨i + 1, sumM n xs[i].n, rfl, by omega, by simp, by simp, ?_, (sumM_bd _ _ hnb).2, hf.alloc hf.n _⟩)
    rw [foldl_take _ _ _ ci, ← hn]
  · have : i = xs.length := by omega
    subst this
    simp [t8, t3, hf, hn, totM]

theorem getLast_get {out : List Rn} {q : Rn} (h : out.getLast? = some q) : ∃ h : out.length - 1 < out.length, out[out.length - 1] = q := by
  rw [List.getLast?_eq_getElem?, List.getElem?_eq_some_iff] at h
  exact h
set_option maxRecDepth 100000 in
set_option maxHeartbeats 1000000 in
theorem tidy_ok (xs : List Rn) (α : AH) (v : Value) (h : Runs α v xs) (hb : ∀ x ∈ xs, x.n ≤ big) (hl : xs.length ≤ 1000000000) :
    NCalls Try.prog 67 [v] α (fun r α' => OwR α.n α' r (tidyM xs) ∧ Fr α.n α α') := by
  obtain ⟨xi, xo, xl, xidx, xld⟩ := h.rdf (t := 84) Try.underlying84 sz102
  refine ncw mixd Try.func67 rfl Try.results67 (by kernel_rfl) ?_
  simp [xl]
  refine wlp [3, 5, 6] 9 49 (by kernel_rfl) xs.length (fun k t α' => ∃ (i : Nat) (out : List Rn), k = xs.length - i ∧ i ≤ xs.length ∧ t 9 = .int .i64 i ∧ OwR α.n α' (t 3) out ∧ out = (xs.take i).foldl tdS [] ∧ out.length ≤ i ∧ (∀ x ∈ out, x.n ≤ big) ∧ Fr α.n α α')
    ⟨0, [], by omega, by omega, by simp, .nil, rfl, by simp, by simp, .refl _ _⟩ ?_
  rintro J hJ k t α1 ⟨i, out, rfl, hi, t9, ho, hout, hol, hob, hf⟩
  by_cases ci : i < xs.length
  case neg =>
    have : i = xs.length := by omega
    subst this
    rw [List.take_length] at hout
    simp [t9, hf]
    rw [tidyM, ← hout]
    exact ho
  obtain ⟨b, hb', bp⟩ := xld _ hf
  obtain ⟨b1, b2, -⟩ := bp i ci
  simp only [Rn.enc] at b2
  have e1 : IntKind.i64.wrap ((i : Int) + 1) = (i : Int) + 1 := w64 (by omega)
  have hxb := hb _ (List.getElem_mem ci)
  obtain ⟨oa, oc, hov⟩ := ho.sl.isSl
  have ho1 := ho.fr (Fr.alloc0 α1 ⟨[.int .i64 xs[i].p, .int .i64 xs[i].n], 102, true⟩)
  have hf1 : Fr α.n α (α1.alloc ⟨[.int .i64 xs[i].p, .int .i64 xs[i].n], 102, true⟩) := hf.alloc hf.n _
  have hg1 := AH.alloc_get α1 ⟨[.int .i64 xs[i].p, .int .i64 xs[i].n], 102, true⟩
  simp [t9, ci, xidx .i64 i ci, hb' (by omega), b1, b2, aalloc, hov]
  generalize hα2 : α1.alloc _ = α2 at *
  have fin : ∀ (s' : AS) (γ : AH), s' 9 = .int .i64 ((i : Int) + 1) → OwR α.n γ (s' 3) (tdS out xs[i]) → (∀ x ∈ tdS out xs[i], x.n ≤ big) → Fr α.n α γ → agn J (xs.length - i) s' γ := fun s' γ h1 h2 h3 h4 =>
    agn_mk (xs.length - (i + 1)) (by omega) (hJ _ _ _ ⟨i + 1, tdS out xs[i], rfl, by omega, by simpa using h1, h2, by rw [foldl_take _ _ _ ci, ← hout], by have := tdS_len out xs[i]; omega, h3, h4⟩)
  by_cases c1 : xs[i].n < 1
  · simp [hg1, c1, t9, e1]
    have e : tdS out xs[i] = out := by rw [tdS, if_pos c1]
    exact fin _ _ (by simp) (by rw [e]; exact ho1) (by rw [e]; exact hob) hf1
  simp [hg1, c1]
  refine wdraw (tks [0, 0, 0, 0, 0, 0, 0, 0, 0, 0, 0, 0, 0] (.done)) (by kernel_rfl) ?_
  have app : (∀ q, out.getLast? = some q → q.p ≠ xs[i].p) → ∃ w α3, aappend Try.prog #[84, 84] (t 3) (.slice (some ⟨α2.n, 0, none⟩) 1 0) (α2.alloc ⟨[.int .i64 xs[i].p, .int .i64 xs[i].n], 102, true⟩) = some (w, α3) ∧
      ∀ s' : AS, s' 9 = .int .i64 ((i : Int) + 1) → s' 3 = w → agn J (xs.length - i) s' α3 := fun hq => by
    obtain ⟨w, α3, p1, p2, p3, -⟩ := ho1.push el84 hf1.n (x := xs[i]) (c := [.int .i64 xs[i].p, .int .i64 xs[i].n]) rfl (flatK_apart _ _ _ _ _) (by omega) 0
    have e : tdS out xs[i] = out ++ [xs[i]] := by
      rw [tdS, if_neg c1]
      split
      · rename_i q h; rw [if_neg (hq q h)]
      · rename_i h; rw [List.getLast?_eq_none_iff] at h; simp [h]
    exact ⟨w, α3, p1, fun s' h1 h2 => fin _ _ h1 (by rw [e, h2]; exact p2) (by rw [e]; intro x hx; simp at hx; rcases hx with hx | rfl; exact hob x hx; exact hxb) (hf1.trans p3)⟩
  by_cases c2 : out.length = 0
  · have : out = [] := List.eq_nil_of_length_eq_zero c2
    subst this
    obtain ⟨w, α3, hap, fin⟩ := app (fun q h => by simp at h)
    simp [hg1, hap, t9, e1]
    exact fin _ (by simp) (by simp)
  obtain ⟨q, hq⟩ : ∃ q, out.getLast? = some q := by
    cases h : out.getLast? with
    | some q => exact ⟨q, rfl⟩
    | none => rw [List.getLast?_eq_none_iff] at h; simp [h] at c2
  obtain ⟨hlt, hqe⟩ := getLast_get hq
  obtain ⟨oi, oc', cs, hov', o2, o3, o4, o5, o6⟩ := ho1.mem (by omega)
  rw [hov] at hov'
  cases hov'
  have o6' : (cs.drop ((out.length - 1) * 2)).take 2 = [.int .i64 q.p, .int .i64 q.n] := by have := o6 _ hlt; rw [hqe] at this; exact this
  have o5 : out.length * 2 ≤ cs.length := o5
  have hc0 : cs[(out.length - 1) * 2]? = some (.int .i64 q.p) := take_get (j := 0) o6' (by simp)
  have hc1 : cs[(out.length - 1) * 2 + 1]? = some (.int .i64 q.n) := take_get (j := 1) o6' (by simp)
  have e2 : IntKind.i64.wrap ((out.length : Int) - 1) = ((out.length - 1 : Nat) : Int) := by rw [w64 (by omega)]; omega
  have c3 : (0 : Int) < out.length := by omega
  have c3' : 0 < out.length := by omega
  have hqb := hob q (List.mem_of_getLast? hq)
  by_cases c4 : q.p = xs[i].p
  · simp [hg1, hov, c3, c3', e2, o4, hc0, hlt, c4]
    refine wdraw (tks [0, 0, 0, 0, 0, 0, 0, 0, 0, 0, 0] (.pick (.cons 0 (.take 0 (.take 0 (.pick (.cons 0 (.done) .nil)))) .nil))) (by kernel_rfl) ?_
    simp [hg1, hov, c3, c3', e2, o4, hc1, hlt]
    refine (sum_ok _ _ _ hqb hxb).mono fun r β hr => ?_
    obtain ⟨rfl, rfl⟩ := hr
    have hlt2 : (out.length - 1) * 2 + 1 + 1 ≤ cs.length := by omega
    simp [o4, hlt, hlt2, t9, e1]
    have e : tdS out xs[i] = out.set (out.length - 1) ⟨q.p, sumM q.n xs[i].n⟩ := by
      rw [tdS, if_neg c1, hq]
      simp only [c4, if_pos]
      rw [List.set_eq_take_append_cons_drop, if_pos hlt, List.dropLast_eq_take, List.drop_eq_nil_of_le (by omega)]
    refine fin _ _ (by simp) ?_ ?_ (hf1.set o2 _)
    · rw [e]
      simp
      rw [hov]
      refine Ow.put1 (K := runK) (flatK_apart _ _ _ _ _) o2 o3 o4 o5 o6 (out.length - 1) 1 (by decide) _ ⟨q.p, sumM q.n xs[i].n⟩ ?_ _ rfl
      show (((cs.drop ((out.length - 1) * 2)).take 2).set 1 _) = _
      rw [o6']; rfl
    · rw [e]
      intro x hx
      rcases List.mem_or_eq_of_mem_set hx with hx | rfl
      · exact hob x hx
      · exact (sumM_bd _ _ hqb).2
  · obtain ⟨w, α3, hap, fin⟩ := app (fun q' h => by rw [hq] at h; cases h; exact c4)
    rw [hov] at hap
    simp [hg1, hov, c3, c3', e2, o4, hc0, hlt, c4, hap, t9, e1]
    exact fin _ (by simp) (by simp)
end Go.Proofs.Ytggkeldedennfaa

set_option linter.unusedVariables false
set_option linter.unusedSimpArgs false
namespace Go.Nod
/-- A row is of one forest alone. -/
theorem F.uniq : ∀ (f g : F), f.ok → g.ok → f.cnt = g.cnt → ∀ ys zs, f.flat ++ ys = g.flat ++ zs → f = g ∧ ys = zs
  | .nil, .nil, _, _, _, ys, zs, h => ⟨rfl, by simpa [F.flat] using h⟩
  | .nil, .cons _ _ _, _, _, h, _, _, _ => by simp [F.cnt] at h
  | .cons _ _ _, .nil, _, _, h, _, _, _ => by simp [F.cnt] at h
  | .cons x ks r, .cons x' ks' r', ⟨a1, a2, a3⟩, ⟨b1, b2, b3⟩, hc, ys, zs, h => by
    simp only [F.flat, List.cons_append, List.cons.injEq, List.append_assoc] at h
    obtain ⟨rfl, h⟩ := h
    obtain ⟨e1, h1⟩ := F.uniq ks ks' a2 b2 (by omega) _ _ h
    obtain ⟨e2, h2⟩ := F.uniq r r' a3 b3 (by simp [F.cnt] at hc; omega) _ _ h1
    exact ⟨by rw [e1, e2], h2⟩
open Classical in
noncomputable def jg (xs : List Nd) : Bool × Int × Int := ⟨Classical.choose (judged xs), Classical.choose (Classical.choose_spec (judged xs)), Classical.choose (Classical.choose_spec (Classical.choose_spec (judged xs)))⟩
theorem jg_spec (xs : List Nd) : Judged xs (jg xs).1 (jg xs).2.1 (jg xs).2.2 := Classical.choose_spec (Classical.choose_spec (Classical.choose_spec (judged xs)))
/-- why a table may not be: 0: it may -/
noncomputable def rtM (xs : List Nd) : Int := rightM xs.length (jg xs).1 (jg xs).2.1 (jg xs).2.2
open Classical in
noncomputable def rootM (xs : List Nd) : Nd × F := if h : ∃ p : Nd × F, (F.cons p.1 p.2 .nil).ok ∧ xs = p.1 :: p.2.flat then Classical.choose h else (⟨0, 0, 0⟩, .nil)
theorem rootM_eq {x : Nd} {ks : F} (h : (F.cons x ks .nil).ok) : rootM (x :: ks.flat) = (x, ks) := by
  have he : ∃ p : Nd × F, (F.cons p.1 p.2 .nil).ok ∧ x :: ks.flat = p.1 :: p.2.flat := ⟨(x, ks), h, rfl⟩
  rw [rootM, dif_pos he]
  obtain ⟨h1, h2⟩ := Classical.choose_spec he
  have := (F.uniq (.cons _ _ .nil) (.cons _ _ .nil) h h1 rfl [] [] (by simpa [F.flat] using h2)).1
  injection this with a b _
  exact Prod.ext a.symm b.symm
mutual
def lvN (x : Nd) : F → List Rn
  | ks => if x.k = 1 then [⟨x.p, x.n⟩] else if x.k = 2 then [⟨-1, x.n⟩] else if x.k = 4 then (List.replicate x.n.toNat (lvF ks)).flatten else lvF ks
def lvF : F → List Rn
  | .nil => []
  | .cons x ks r => lvN x ks ++ lvF r
end
noncomputable def leavesM (xs : List Nd) : List Rn := lvN (rootM xs).1 (rootM xs).2
noncomputable def ofM (xs : List Nd) : List Rn × Int := if rtM xs ≠ 0 then ([], rtM xs) else if 96 < (tidyM (leavesM xs)).length then ([], 3) else (tidyM (leavesM xs), 0)
theorem rt_root {xs : List Nd} (h : rtM xs = 0) : ∃ x ks, (F.cons x ks .nil).ok ∧ xs = x :: ks.flat ∧ rootM xs = (x, ks) ∧ xs.length ≤ 128 ∧ ks.dep + 1 ≤ 16 ∧ val x ks.len ≤ 4096 := by
  have hj := jg_spec xs
  unfold rtM rightM at h
  split at h
  · omega
  · split at h
    · omega
    · split at h
      · omega
      · split at h
        · omega
        · rcases hj with ⟨h0, _⟩ | ⟨_, _, _, x, ks, h1, h2, h3, h4⟩
          · simp_all
          · exact ⟨x, ks, h1, h2, by rw [h2]; exact rootM_eq h1, by omega, by omega, by omega⟩
theorem lv_len : ∀ (f : F), f.ok → ((lvF f).length : Int) ≤ f.len ∧ ∀ r ∈ lvF f, 1 ≤ r.n ∧ r.n ≤ f.len
  | .nil, _ => by simp [lvF, F.len]
  | .cons x ks r, ⟨h1, h2, h3⟩ => by
    obtain ⟨i1, i2⟩ := lv_len ks h2
    obtain ⟨j1, j2⟩ := lv_len r h3
    have hn := kids_n h1
    have p1 := F.len_pos ks h2
    have p2 := F.len_pos r h3
    have node : ((lvN x ks).length : Int) ≤ val x ks.len ∧ ∀ r ∈ lvN x ks, 1 ≤ r.n ∧ r.n ≤ val x ks.len := by
      unfold lvN val
      split
      · rw [if_neg (by omega), if_neg (by omega)]; simp; omega
      · split
        · rw [if_neg (by omega), if_neg (by omega)]; simp; omega
        · split
          · rw [if_neg (by omega)]
            obtain ⟨n, hn'⟩ := Int.eq_ofNat_of_zero_le (show 0 ≤ x.n by omega)
            rw [hn']
            have hm : (n : Int) * (lvF ks).length ≤ n * ks.len := Int.mul_le_mul_of_nonneg_left i1 (by omega)
            have h1' : 1 * ks.len ≤ (n : Int) * ks.len := Int.mul_le_mul_of_nonneg_right (by omega) (by omega)
            refine ⟨by simpa using hm, fun r hr => ?_⟩
            simp only [List.mem_flatten, List.mem_replicate] at hr
            obtain ⟨l, ⟨_, rfl⟩, hr⟩ := hr
            obtain ⟨a, b⟩ := i2 r hr
            exact ⟨a, by omega⟩
          · split
            · exact ⟨i1, i2⟩
            · rename_i h3' h4' h5' h6'
              have := kids_pos (x := x)
              have h0 : kidsM x = 0 := by
                rcases Int.lt_or_le 0 (kidsM x) with h | h
                · rcases this h with h | h <;> omega
                · omega
              have : ks = .nil := F.cnt_zero (by omega)
              subst this
              simp [lvF]; omega
    simp only [lvF, F.len, List.length_append, List.mem_append]
    refine ⟨by omega, fun r hr => ?_⟩
    rcases hr with hr | hr
    · have := node.2 r hr; omega
    · have := j2 r hr
      have v0 : 0 ≤ val x ks.len := by omega
      omega
theorem lvN_len {x : Nd} {ks : F} (h : (F.cons x ks .nil).ok) : ((lvN x ks).length : Int) ≤ val x ks.len ∧ ∀ r ∈ lvN x ks, 1 ≤ r.n ∧ r.n ≤ val x ks.len := by
  have := lv_len _ h
  simpa [lvF, F.len] using this
theorem kids_four {x : Nd} {k : Nat} (h : kidsM x = k) : (x.k = 1 → 0 ≤ x.p ∧ x.p < 6) ∧ (x.k = 1 ∨ x.k = 2 ∨ x.k = 3 ∨ x.k = 4) := by
  unfold kidsM at h
  split at h
  · omega
  · split at h
    · rename_i h'; omega
    · split at h
      · omega
      · split at h <;> omega
end Go.Nod
namespace Go.Proofs.Ytggkeldedennfaa
open Go Go.RowKit Go.Lay Go.Nod

theorem runK_apart (e : TypeId) : runK.apart e := flatK_apart _ _ _ _ _
theorem ints_rd1 {α : AH} {v : Value} {xs : List Int} (h : Ints α v xs) : ∃ id off, alen Try.prog #[28] v = some (.int .i64 (xs.length : Int)) ∧
    (∀ (k : IntKind) (i : Nat), i < xs.length → aindexAddr Try.prog 28 v (.int k (i : Int)) = some (.pointer (some ⟨id, off + i, none⟩))) ∧
    ∀ β, Fr α.n α β → ∃ b, (0 < xs.length → β.get id = some b) ∧ ∀ (i : Nat) (hi : i < xs.length), b.cells[off + i]? = some (.int .i64 xs[i]) := by
  obtain ⟨id, off, a1, a2, a3⟩ := h.rd1 (t := 28) Try.underlying28 sz3
  refine ⟨id, off, a1, fun k i hi => by have := a2 k i hi; rw [show (intK .i64).sz = 1 from rfl, Nat.mul_one] at this; exact this, fun β hf => ?_⟩
  obtain ⟨b, b1, b2⟩ := a3 β hf
  refine ⟨b, b1, fun i hi => ?_⟩
  obtain ⟨b3, b4⟩ := b2 i hi
  rw [show (intK .i64).sz = 1 from rfl, Nat.mul_one] at b4
  exact take_get b4 (j := 0) (by simp)
theorem rep_succ {τ : Type} (l : List τ) (n : Nat) : (List.replicate (n + 1) l).flatten = (List.replicate n l).flatten ++ l := by
  rw [List.replicate_succ', List.flatten_append]; simp

set_option maxRecDepth 100000 in
set_option maxHeartbeats 1000000 in
theorem leaves_ok (xs : List Nd) (α0 : AH) (v : Value) (h : Nodes α0 v xs) (hl : xs.length ≤ 1000000) : ∀ (n : Nat) (j : Nat) (x : Nd) (ks : F) (α : AH) (u : Value) (ys : List Rn), ks.flat.length = n → At xs j x ks → Fr α0.n α0 α → OwR α0.n α u ys →
    (ys.length : Int) + val x ks.len ≤ 1000000 →
    NCalls Try.prog 72 [v, .int .i64 (j : Int), u] α (fun r α' => OwR α.n α' r (ys ++ lvN x ks) ∧ FrU u α α') := by
  intro n
  induction n using Nat.strongRecOn with
  | _ n ih =>
  intro j x ks α u ys hn h0 hf ho hb
  have hlt := h0.lt
  obtain ⟨hok1, hok2, -⟩ := h0.1
  have hlp := F.len_pos ks hok2
  have hxn := kids_n hok1
  obtain ⟨hx1, hxk⟩ := kids_four hok1
  obtain ⟨nid, noff, -, nidx, nld⟩ := h.rdf (t := 49) Try.underlying49 sz55
  have hj : j < xs.length := by omega
  have rdx : ∀ γ, Fr α0.n α0 γ → ∃ b, γ.get nid = some b ∧ b.cells[noff + j * 3]? = some (.int .i64 x.k) ∧ b.cells[noff + j * 3 + 1]? = some (.int .i64 x.p) ∧ b.cells[noff + j * 3 + 2]? = some (.int .i64 x.n) := fun γ hγ => by
    obtain ⟨b, b1, b2⟩ := nld γ hγ
    obtain ⟨-, -, b3⟩ := b2 j hj
    rw [h0.get hj] at b3
    exact ⟨b, b1 (by omega), b3 0 _ rfl, b3 1 _ rfl, b3 2 _ rfl⟩
  obtain ⟨b, hb0, hk, hp, hn'⟩ := rdx _ hf
  have hix := nidx .i64 j hj
  have hv1 : 1 ≤ val x ks.len := by have := F.len_pos _ h0.1; simp [F.cnt, F.len] at this; omega
  have push : ∀ r : Rn, ∃ w α2, aappend Try.prog #[84, 84] u (.slice (some ⟨α.n, 0, none⟩) 1 0) (α.alloc ⟨[.int .i64 r.p, .int .i64 r.n], 102, true⟩) = some (w, α2) ∧ OwR α.n α2 w (ys ++ [r]) ∧ FrU u α α2 := fun r => by
    obtain ⟨w, α2, p1, p2, p3, -⟩ := ho.push1 el84 hf.n (x := r) (c := [.int .i64 r.p, .int .i64 r.n]) rfl (runK_apart _) (by omega) 0
    exact ⟨w, α2, p1, p2, p3⟩
  refine ncw mixd Try.func72 rfl Try.results72 (by kernel_rfl) ?_
  rcases hxk with k1 | k2 | k3 | k4
  · obtain ⟨w, α2, p1, p2, p3⟩ := push ⟨x.p, x.n⟩
    simp [hix, hb0, hk, k1]
    refine wdraw (tks [0, 0, 0, 0, 0, 0, 0, 0, 0, 0, 0, 0] (.pick (.cons 0 (.pick (.cons 0 (.take 0 (.done)) .nil)) .nil))) (by kernel_rfl) ?_
    simp [hix, hb0, hp, hn', p1]
    rw [lvN, if_pos k1]
    exact ⟨p2, p3⟩
  · obtain ⟨w, α2, p1, p2, p3⟩ := push ⟨-1, x.n⟩
    simp [hix, hb0, hk, k2, hn', p1]
    rw [lvN, if_neg (by omega), if_pos k2]
    exact ⟨p2, p3⟩
  · have hval : val x ks.len = ks.len := by rw [val, if_pos k3]
    rw [lvN, if_neg (by omega), if_neg (by omega), if_neg (by omega)]
    simp [hix, hb0, hk, k3]
    refine (refKidsAt_ok xs j x ks _ v (h.fr hf) (by omega) h0).mono fun kv β hr => ?_
    obtain ⟨ko, hg⟩ := hr
    have hpl := places_len ks (j + 1)
    have hkne : ks.cnt ≠ 0 := by
      have := (kids_val (x := x) (by omega)).1 k3
      omega
    generalize hkl : (F.places (j + 1) ks).map Int.ofNat = kl at *
    have hkll : kl.length ≤ ks.flat.length := by rw [← hkl, List.length_map]; exact hpl
    obtain ⟨-, -, klen, -⟩ := ints_rd1 ko.sl
    have ho1 := ho.fr hg
    simp [klen]
    refine wlp [2, 9] 63 71 (by kernel_rfl) kl.length (fun k t α' => ∃ (i p : Nat) (r : F) (zs : List Rn), k = kl.length - i ∧ i ≤ kl.length ∧ Lies xs p r ∧ r.flat.length ≤ ks.flat.length ∧ kl.drop i = (F.places p r).map Int.ofNat ∧ t 63 = .int .i64 i ∧ OwR α0.n α' (t 2) zs ∧
        ((t 2 = u ∧ r.cnt = ks.cnt) ∨ OwR α.n α' (t 2) zs) ∧ zs ++ lvF r = ys ++ lvF ks ∧ (zs.length : Int) + r.len ≤ 1000000 ∧ FrU u α α' ∧ OwI α.n α' kv kl)
      ⟨0, j + 1, ks, ys, rfl, by omega, h0.kids, Nat.le_refl _, by simp [hkl], by simp, by simpa using ho1, .inl ⟨by simp, rfl⟩, rfl, by omega, .of hg, ko⟩ ?_
    rintro J hJ k t α1 ⟨i, p, r, zs, rfl, hi, hL, hrl, hd, t63, hz, hz2, hzs, hzl, hf', ko⟩
    have hfα : Fr α0.n α0 α1 := hf.trans (hf'.fr ho hf.n)
    cases r with
    | nil =>
      have : i = kl.length := by
        have := congrArg List.length hd
        simp [F.places] at this
        omega
      subst this
      simp [t63]
      rw [← hzs]
      simp only [lvF, List.append_nil]
      rcases hz2 with ⟨_, h⟩ | hz2
      · simp [F.cnt] at h; omega
      · exact ⟨hz2, hf'⟩
    | cons z ws r =>
      obtain ⟨hA, hL'⟩ := hL.head
      obtain ⟨hil, hget, hd'⟩ := drop_head (by simpa [F.places] using hd)
      obtain ⟨id, off, -, kidx, kld⟩ := ints_rd1 ko.sl
      obtain ⟨b, hb1, hc⟩ := kld _ (.refl _ _)
      have hc := hc i hil
      rw [hget] at hc
      have e1 : IntKind.i64.wrap ((i : Int) + 1) = (i : Int) + 1 := w64 (by omega)
      simp only [F.flat, List.length_cons, List.length_append] at hrl
      simp only [F.len] at hzl
      have hrlen := F.len_pos r hL'.1
      simp [t63, hil, kidx .i64 i hil, hb1 (by omega), hc]
      refine (ih ws.flat.length (by omega) p z ws α1 _ zs rfl hA hfα hz (by omega)).mono fun w γ hw => ?_
      obtain ⟨hw1, hw2⟩ := hw
      have hvl := (lvN_len hA.1).1
      have ht2 : t 2 = u ∨ OwR α.n α1 (t 2) zs := hz2.imp (·.1) (fun h => h)
      simp [t63, e1]
      refine agn_mk (kl.length - (i + 1)) (by omega) (hJ _ _ _ ⟨i + 1, p + (ws.flat.length + 1), r, zs ++ lvN z ws, rfl, by omega, hL', by omega, hd', by simp, by simpa using hw1.mono hfα.n, .inr (by simpa using hw1.mono hf'.n), by rw [← hzs]; simp [lvF], by simp; omega, hf'.trans ht2 hw2, ko.fru hw2 hz (show (3 : Nat) ≠ 102 by decide) fun _ _ h => h⟩)
  · have hval : val x ks.len = x.n * ks.len := by rw [val, if_neg (by omega), if_pos k4]
    rw [lvN, if_neg (by omega), if_neg (by omega), if_pos k4]
    have hc1 : ks.cnt = 1 := by have := (kids_val (x := x) (by omega)).2.1 k4; omega
    obtain ⟨z, ws, rfl⟩ : ∃ z ws, ks = .cons z ws .nil := by
      cases ks with
      | nil => simp [F.cnt] at hc1
      | cons z ws r =>
        have : r = .nil := F.cnt_zero (by simp [F.cnt] at hc1; omega)
        subst this
        exact ⟨z, ws, rfl⟩
    obtain ⟨hA, -⟩ := h0.kids.head
    have hvl := (lvN_len hA.1).1
    obtain ⟨m, hm⟩ := Int.eq_ofNat_of_zero_le (show 0 ≤ x.n by omega)
    have hF : lvF (F.cons z ws F.nil) = lvN z ws := by simp [lvF]
    have hL : (F.cons z ws F.nil).len = val z ws.len := by simp [F.len]
    rw [hL, hm] at hval
    rw [hL] at hlp hb hv1
    simp only [F.cnt] at hlp
    rw [hF, hm]
    have hm1 : (m : Int) * 1 ≤ m * val z ws.len := Int.mul_le_mul_of_nonneg_left (by omega) (by omega)
    simp only [F.flat, List.append_nil, List.length_cons] at hn
    simp [hix, hb0, hk, k4]
    have ej : IntKind.i64.wrap ((j : Int) + 1) = (j : Int) + 1 := w64 (by omega)
    refine wlp [2, 7] 44 57 (by kernel_rfl) m (fun k t α' => ∃ (i : Nat) (zs : List Rn), k = m - i ∧ i ≤ m ∧ t 7 = .int .i64 i ∧ OwR α0.n α' (t 2) zs ∧ ((t 2 = u ∧ i = 0) ∨ OwR α.n α' (t 2) zs) ∧ zs = ys ++ (List.replicate i (lvN z ws)).flatten ∧ (zs.length : Int) ≤ ys.length + i * val z ws.len ∧ FrU u α α')
      ⟨0, ys, by omega, by omega, by simp, by simpa using ho, .inl ⟨by simp, rfl⟩, by simp, by omega, .refl _ _⟩ ?_
    rintro J hJ k t α1 ⟨i, zs, rfl, hi, t7, hz, hz2, hzs, hzl, hf'⟩
    have hfα : Fr α0.n α0 α1 := hf.trans (hf'.fr ho hf.n)
    obtain ⟨b', hb1, hk', hp', hn1⟩ := rdx _ hfα
    rw [hm] at hn1
    have hmm : (i : Int) * val z ws.len ≤ m * val z ws.len := Int.mul_le_mul_of_nonneg_right (by omega) (by omega)
    by_cases ci : i < m
    · have e1 : IntKind.i64.wrap ((i : Int) + 1) = (i : Int) + 1 := w64 (by omega)
      have hmm2 : ((i : Int) + 1) * val z ws.len ≤ m * val z ws.len := Int.mul_le_mul_of_nonneg_right (by omega) (by omega)
      rw [Int.add_mul, Int.one_mul] at hmm2
      simp [t7, hix, hb1, hn1, ci, ej]
      refine (ih ws.flat.length (by omega) (j + 1) z ws α1 _ zs rfl hA hfα hz (by omega)).mono fun w γ hw => ?_
      obtain ⟨hw1, hw2⟩ := hw
      have ht2 : t 2 = u ∨ OwR α.n α1 (t 2) zs := hz2.imp (·.1) (fun h => h)
      simp [t7, e1]
      refine agn_mk (m - (i + 1)) (by omega) (hJ _ _ _ ⟨i + 1, zs ++ lvN z ws, rfl, by omega, by simp, by simpa using hw1.mono hfα.n, .inr (by simpa using hw1.mono hf'.n), by rw [rep_succ, hzs, List.append_assoc], ?_, hf'.trans ht2 hw2⟩)
      rw [List.length_append]
      push_cast
      rw [Int.add_mul, Int.one_mul]
      omega
    · have : i = m := by omega
      subst this
      simp [t7, hix, hb1, hn1]
      rw [← hzs]
      rcases hz2 with ⟨_, h⟩ | hz2
      · omega
      · exact ⟨hz2, hf'⟩

theorem leavesTop_ok (xs : List Nd) (α : AH) (v : Value) (h : Nodes α v xs) (hr : rtM xs = 0) : NCalls Try.prog 68 [v] α (fun r α' => OwR α.n α' r (leavesM xs) ∧ Fr α.n α α') := by
  obtain ⟨x, ks, h1, h2, h3, h4, h5, h6⟩ := rt_root hr
  refine ncw mixd Try.func68 rfl Try.results68 (by kernel_rfl) ?_
  simp
  refine (leaves_ok xs α v h (by omega) _ 0 x ks α _ [] rfl ⟨h1, [], by simpa using h2⟩ (.refl _ _) .nil (by simp; omega)).mono fun r β hr => ?_
  obtain ⟨h7, h8⟩ := hr
  simp
  rw [leavesM, h3]
  exact ⟨h7, h8.fr (K := runK) (e := 102) .nil (Nat.le_refl _)⟩
theorem leaves_bd {xs : List Nd} (hr : rtM xs = 0) : (leavesM xs).length ≤ 4096 ∧ ∀ r ∈ leavesM xs, 1 ≤ r.n ∧ r.n ≤ 4096 := by
  obtain ⟨x, ks, h1, h2, h3, h4, h5, h6⟩ := rt_root hr
  rw [leavesM, h3]
  obtain ⟨a, b⟩ := lvN_len h1
  simp only
  exact ⟨by omega, fun r hr => by have := b r hr; omega⟩
theorem rtM_rd (xs : List Nd) (α : AH) (v : Value) (h : Nodes α v xs) (hl : xs.length ≤ 1000000000) : NCalls Try.prog 28 [v] α (fun r α' => r = .int .i64 (rtM xs) ∧ Fr α.n α α') := refRight0_ok xs (jg_spec xs) α v h hl

set_option maxRecDepth 100000 in
theorem of_ok (xs : List Nd) (α : AH) (v : Value) (h : Nodes α v xs) (hl : xs.length ≤ 1000000000) :
    NCalls Try.prog 54 [v] α (fun r α' => ∃ u, r = .tuple #[u, .int .i64 (ofM xs).2] ∧ OwR α.n α' u (ofM xs).1 ∧ Fr α.n α α') := by
  refine ncw mixd Try.func54 rfl Try.results54 (by kernel_rfl) ?_
  simp
  refine (rtM_rd xs α v h hl).mono fun r β hr => ?_
  obtain ⟨rfl, hf⟩ := hr
  by_cases c : rtM xs = 0
  case neg =>
    simp [c, ofM, hf]
    exact .nil
  simp [c]
  refine (leavesTop_ok xs _ v (h.fr hf) c).mono fun r γ hr => ?_
  obtain ⟨ho, hg⟩ := hr
  obtain ⟨b1, b2⟩ := leaves_bd c
  simp
  refine (tidy_ok _ _ _ ho.sl (fun x hx => by have := b2 x hx; unfold big; omega) (by omega)).mono fun r δ hr => ?_
  obtain ⟨ho, hd⟩ := hr
  obtain ⟨a, cc, rfl⟩ := ho.sl.isSl
  have hfr := hf.up (hg.up hd)
  by_cases c2 : 96 < (tidyM (leavesM xs)).length
  · have c2' : (96 : Int) < (tidyM (leavesM xs)).length := by omega
    simp [c2, c2', c, ofM, hfr]
    exact .nil
  · have c2' : ¬ (96 : Int) < (tidyM (leavesM xs)).length := by omega
    simp [c2, c2', c, ofM, hfr]
    exact ho.mono (Nat.le_trans hf.n hg.n)
end Go.Proofs.Ytggkeldedennfaa

set_option linter.unusedVariables false
set_option linter.unusedSimpArgs false
namespace Go.Nod
def wdS (w : List Int) (r : Rn) : List Int := w ++ List.replicate (min r.n.toNat (8192 - w.length)) r.p
def wordsM (xs : List Rn) : List Int := xs.foldl wdS []
def dstM (w : List Int) (t : Nat) (to : Int) : Nat := ((List.range w.length).find? fun d => decide (w[(t + (d + 1)) % w.length]? = some to)).getD 0 + 1
def latS (w : List Int) (a b : Int) (m : Int) (t : Nat) : Int := if w[t]? = some a then max m (dstM w t b) else m
def latW (w : List Int) (a b : Int) : Int := if a ∉ w then 0 else if b ∉ w then -1 else (List.range w.length).foldl (latS w a b) 0
def lateM (xs : List Rn) (a b : Int) : Int := latW (wordsM xs) a b
def budS (w : List Int) (part : Int) (per : Nat) (m : Int) (j : Nat) : Int := min m (((w.drop (j * per)).take per).count part : Nat)
def budW (w : List Int) (part per : Int) : Int := if per < 1 ∨ w.length = 0 ∨ (w.length : Int).tmod per ≠ 0 then -1 else (List.range (w.length / per.toNat)).foldl (budS w part per.toNat) (per + 1)
def budM (xs : List Rn) (part per : Int) : Int := budW (wordsM xs) part per
def chBad (l : List Rn) (x : Cn) : Prop := 0 < x.late ∧ (lateM l x.f x.t < 0 ∨ x.late < lateM l x.f x.t)
instance (l : List Rn) (x : Cn) : Decidable (chBad l x) := by unfold chBad; infer_instance
def prBad (l : List Rn) (i : Nat) (p : Pt) : Prop := 0 < p.bud ∧ budM l i p.per < p.bud
instance (l : List Rn) (i : Nat) (p : Pt) : Decidable (prBad l i p) := by unfold prBad; infer_instance
/-- some of a row's things, each with its place -/
def anyI {τ : Type} (l : List τ) (f : Nat → τ → Bool) : Bool := (List.range l.length).any fun i => match l[i]? with | some x => f i x | none => false
def holdsM (c : Cf) (l : List Rn) : Int := if (c.chans.any fun x => decide (chBad l x)) = true then 19 else if anyI c.parts (fun i p => decide (prBad l i p)) = true then 20 else 0
theorem wdS_len (w : List Int) (r : Rn) (h : w.length ≤ 8192) : (wdS w r).length ≤ 8192 := by simp [wdS]; omega
theorem words_len (xs : List Rn) : (wordsM xs).length ≤ 8192 := by
  suffices ∀ (ys : List Rn) (w : List Int), w.length ≤ 8192 → (ys.foldl wdS w).length ≤ 8192 from this xs [] (by simp)
  intro ys
  induction ys with
  | nil => intro w h; exact h
  | cons y ys ih => intro w h; exact ih _ (wdS_len w y h)
theorem dst_spec {w : List Int} {to : Int} (h : to ∈ w) (t : Nat) : 1 ≤ dstM w t to ∧ dstM w t to ≤ w.length ∧ w[(t + dstM w t to) % w.length]? = some to ∧ ∀ e, 1 ≤ e → e < dstM w t to → w[(t + e) % w.length]? ≠ some to := by
  obtain ⟨k, hk, he⟩ := List.mem_iff_getElem.1 h
  have hex : ∃ d, (List.range w.length).find? (fun d => decide (w[(t + (d + 1)) % w.length]? = some to)) = some d := by
    cases hf : (List.range w.length).find? (fun d => decide (w[(t + (d + 1)) % w.length]? = some to)) with
    | some d => exact ⟨d, rfl⟩
    | none =>
      rw [List.find?_eq_none] at hf
      -- the place k is met at the distance d + 1
      have hd : ∃ d, d < w.length ∧ (t + (d + 1)) % w.length = k := by
        have hr := Nat.mod_lt t (show 0 < w.length by omega)
        by_cases hc : t % w.length < k
        · refine ⟨k - t % w.length - 1, by omega, ?_⟩
          have : t + (k - t % w.length - 1 + 1) = w.length * (t / w.length) + k := by have := Nat.div_add_mod t w.length; omega
          rw [this, Nat.mul_add_mod, Nat.mod_eq_of_lt hk]
        · refine ⟨w.length + k - t % w.length - 1, by omega, ?_⟩
          have : t + (w.length + k - t % w.length - 1 + 1) = w.length * (t / w.length + 1) + k := by have := Nat.div_add_mod t w.length; rw [Nat.mul_add]; omega
          rw [this, Nat.mul_add_mod, Nat.mod_eq_of_lt hk]
      obtain ⟨d, hd1, hd2⟩ := hd
      have := hf d (List.mem_range.2 hd1)
      rw [hd2] at this
      simp [hk, he] at this
  obtain ⟨d, hd⟩ := hex
  have e : dstM w t to = d + 1 := by rw [dstM, hd]; rfl
  rw [List.find?_range_eq_some] at hd
  obtain ⟨h1, h2, h3⟩ := hd
  rw [e]
  refine ⟨by omega, by have := List.mem_range.1 h2; omega, by simpa using h1, fun e' h4 h5 => ?_⟩
  obtain ⟨f, rfl⟩ : ∃ f, e' = f + 1 := ⟨e' - 1, by omega⟩
  have := h3 f (by omega)
  simpa using this
end Go.Nod
namespace Go.Proofs.Ytggkeldedennfaa
open Go Go.RowKit Go.Lay Go.Nod

theorem repl_succ {τ : Type} (n : Nat) (x : τ) (l : List τ) : l ++ List.replicate (n + 1) x = (l ++ List.replicate n x) ++ [x] := by rw [List.replicate_succ']; simp
set_option maxRecDepth 100000 in
set_option maxHeartbeats 1000000 in
theorem words_ok (xs : List Rn) (α : AH) (v : Value) (h : Runs α v xs) (hb : ∀ x ∈ xs, x.n ≤ big) (hl : xs.length ≤ 1000000000) :
    NCalls Try.prog 70 [v] α (fun r α' => OwI α.n α' r (wordsM xs) ∧ Fr α.n α α') := by
  obtain ⟨xi, xo, xl, xidx, xld⟩ := h.rdf (t := 84) Try.underlying84 sz102
  refine ncw mixd Try.func70 rfl Try.results70 (by kernel_rfl) ?_
  simp [xl]
  refine wlp [3, 5, 6] 9 29 (by kernel_rfl) xs.length (fun k t α' => ∃ (i : Nat) (w : List Int), k = xs.length - i ∧ i ≤ xs.length ∧ t 9 = .int .i64 i ∧ OwI α.n α' (t 3) w ∧ w = (xs.take i).foldl wdS [] ∧ w.length ≤ 8192 ∧ Fr α.n α α')
    ⟨0, [], by omega, by omega, by simp, .nil, rfl, by simp, .refl _ _⟩ ?_
  rintro J hJ k t α1 ⟨i, w, rfl, hi, t9, ho, hw, hwl, hf⟩
  by_cases ci : i < xs.length
  case neg =>
    have : i = xs.length := by omega
    subst this
    rw [List.take_length] at hw
    simp [t9, hf]
    rw [wordsM, ← hw]
    exact ho
  obtain ⟨b, hb', bp⟩ := xld _ hf
  obtain ⟨b1, b2, -⟩ := bp i ci
  simp only [Rn.enc] at b2
  have e1 : IntKind.i64.wrap ((i : Int) + 1) = (i : Int) + 1 := w64 (by omega)
  simp [t9, ci, xidx .i64 i ci, hb' (by omega), b1, b2, aalloc]
  have ho1 := ho.fr (Fr.alloc0 α1 ⟨[.int .i64 xs[i].p, .int .i64 xs[i].n], 102, true⟩)
  have hf1 : Fr α.n α (α1.alloc ⟨[.int .i64 xs[i].p, .int .i64 xs[i].n], 102, true⟩) := hf.alloc hf.n _
  have hg1 := AH.alloc_get α1 ⟨[.int .i64 xs[i].p, .int .i64 xs[i].n], 102, true⟩
  have hn1 := AH.alloc_n α1 ⟨[.int .i64 xs[i].p, .int .i64 xs[i].n], 102, true⟩
  generalize hα2 : α1.alloc _ = α2 at *
  refine wlp [3, 6] 13 28 (by kernel_rfl) (8192 - w.length) (fun k t' α' => ∃ (j : Nat), k = 8192 - w.length - j ∧ w.length + j ≤ 8192 ∧ (j : Int) ≤ max 0 xs[i].n ∧ t' 6 = .int .i64 j ∧ OwI α.n α' (t' 3) (w ++ List.replicate j xs[i].p) ∧ α'.get α1.n = some ⟨[.int .i64 xs[i].p, .int .i64 xs[i].n], 102, true⟩ ∧ α1.n < α'.n ∧ Fr α.n α α')
    ⟨0, by omega, by omega, by omega, by simp, by simpa using ho1, hg1, by omega, hf1⟩ ?_
  rintro J2 hJ2 k t2 α3 ⟨j, rfl, hj, hjn, t6, ho, hg, hn, hf⟩
  obtain ⟨oa, oc, hov⟩ := ho.sl.isSl
  have hlw : (w ++ List.replicate j xs[i].p).length = w.length + j := by simp
  rw [hlw] at hov
  by_cases c1 : (j : Int) < xs[i].n
  · by_cases c2 : w.length + j < 8192
    · have c2' : (w.length : Int) + j < 8192 := by omega
      have hjb := hb _ (List.getElem_mem ci)
      unfold big at hjb
      have e2 : IntKind.i64.wrap ((j : Int) + 1) = (j : Int) + 1 := w64 (by omega)
      obtain ⟨v', α4, p1, p2, p3, p4⟩ := ho.push el28 hf.n (x := xs[i].p) (c := [.int .i64 xs[i].p]) rfl (intK_apart _ _) (by omega) 0
      rw [hov] at p1
      simp [t6, hg, c1, hov, c2', p1, e2]
      refine agn_mk (8192 - w.length - (j + 1)) (by omega) (hJ2 _ _ _ ⟨j + 1, by omega, by omega, by omega, by simp, by rw [repl_succ]; simpa using p2, ?_, by have := p3.n; omega, hf.trans p3⟩)
      exact p4 _ _ hg (show (102 : Nat) ≠ 3 by decide) hn
    · have c2' : ¬ (w.length : Int) + j < 8192 := by omega
      simp [t6, hg, c1, hov, c2', t9, e1]
      refine agn_mk (xs.length - (i + 1)) (by omega) (hJ _ _ _ ⟨i + 1, w ++ List.replicate j xs[i].p, rfl, by omega, by simp, by simpa [← hov] using ho, ?_, by simp; omega, hf⟩)
      rw [foldl_take _ _ _ ci, ← hw, wdS]
      congr 2
      omega
  · simp [t6, hg, c1, t9, e1]
    refine agn_mk (xs.length - (i + 1)) (by omega) (hJ _ _ _ ⟨i + 1, w ++ List.replicate j xs[i].p, rfl, by omega, by simp, by simpa using ho, ?_, by simp; omega, hf⟩)
    rw [foldl_take _ _ _ ci, ← hw, wdS]
    congr 2
    omega

theorem memt {w : List Int} {i : Nat} (hi : i < w.length) (b : Int) : b ∈ w.take (i + 1) ↔ b ∈ w.take i ∨ w[i] = b := by rw [List.take_succ_eq_append_getElem hi, List.mem_append, List.mem_singleton, eq_comm (a := b)]
theorem beqI (a b : Int) : (a == b) = decide (a = b) := by rw [Bool.eq_iff_iff]; simp
theorem range_max (w : List Int) (a b : Int) (n : Nat) : 0 ≤ (List.range n).foldl (latS w a b) 0 := by
  induction n with
  | zero => simp
  | succ n ih => rw [fold_succ, latS]; split <;> omega
theorem range_maxb (w : List Int) (a b : Int) (hb : b ∈ w) (n : Nat) : (List.range n).foldl (latS w a b) 0 ≤ w.length := by
  induction n with
  | zero => simp
  | succ n ih => rw [fold_succ, latS]; have := (dst_spec hb n).2.1; split <;> omega
set_option maxRecDepth 100000 in
set_option maxHeartbeats 1000000 in
theorem late_ok (xs : List Rn) (a b : Int) (α : AH) (v : Value) (h : Runs α v xs) (hb : ∀ x ∈ xs, x.n ≤ big) (hl : xs.length ≤ 1000000000) :
    NCalls Try.prog 56 [v, .int .i64 a, .int .i64 b] α (fun r α' => r = .int .i64 (lateM xs a b) ∧ Fr α.n α α') := by
  refine ncw mixd Try.func56 rfl Try.results56 (by kernel_rfl) ?_
  simp
  refine (words_ok xs α v h hb hl).mono fun wv β hr => ?_
  obtain ⟨ho, hf⟩ := hr
  have hwl := words_len xs
  rw [lateM]
  generalize wordsM xs = w at *
  obtain ⟨wi, wo, wl, widx, wld⟩ := ints_rd1 ho.sl
  obtain ⟨bk, hbk, bp⟩ := wld _ (.refl _ _)
  simp [wl]
  refine wlp [9, 10, 12] 20 36 (by kernel_rfl) w.length (fun k t α' => ∃ i, k = w.length - i ∧ i ≤ w.length ∧ t 20 = .int .i64 i ∧ t 9 = .bool (decide (b ∈ w.take i)) ∧ t 10 = .bool (decide (a ∈ w.take i)) ∧ α' = β)
    ⟨0, by omega, by omega, by simp, by simp, by simp, rfl⟩ ?_
  rintro J hJ k t γ ⟨i, rfl, hi, t20, t9, t10, rfl⟩
  by_cases ci : i < w.length
  · have e1 : IntKind.i64.wrap ((i : Int) + 1) = (i : Int) + 1 := w64 (by omega)
    have fin : ∀ (s' : AS) (x y : Bool), s' 20 = .int .i64 ((i : Int) + 1) → s' 9 = .bool x → s' 10 = .bool y → x = decide (b ∈ w.take i ∨ w[i] = b) → y = decide (a ∈ w.take i ∨ w[i] = a) → agn J (w.length - i) s' γ := fun s' x y h1 h2 h3 h4 h5 =>
      agn_mk (w.length - (i + 1)) (by omega) (hJ _ _ _ ⟨i + 1, rfl, by omega, by simpa using h1, by rw [h2, h4]; simp only [memt ci], by rw [h3, h5]; simp only [memt ci], rfl⟩)
    simp +contextual [t20, t9, t10, ci, widx .i64 i ci, hbk (by omega), bp i ci, e1]
    repeat' refine both.mk (fun _ => ?_) (fun _ => ?_)
    all_goals exact fin _ _ _ (by simp) (by simp [t9, t10]; rfl) (by simp [t9, t10]; rfl) (by simp_all [beqI]) (by simp_all [beqI])
  have : i = w.length := by omega
  subst this
  rw [List.take_length] at t9 t10
  by_cases ca : a ∈ w
  case neg => simp [t20, t10, ca, latW, hf]
  by_cases cb : b ∈ w
  case neg => simp [t20, t9, t10, ca, cb, latW, hf]
  simp [t20, t9, t10, ca, cb, latW, wl]
  refine wlp [8, 13, 14, 15] 43 67 (by kernel_rfl) w.length (fun k t α' => ∃ i, k = w.length - i ∧ i ≤ w.length ∧ t 43 = .int .i64 i ∧ t 8 = .int .i64 ((List.range i).foldl (latS w a b) 0) ∧ α' = γ)
    ⟨0, by omega, by omega, by simp, by simp, rfl⟩ ?_
  rintro J2 hJ2 k t2 δ ⟨i, rfl, hi, t43, t8, rfl⟩
  by_cases ci : i < w.length
  case neg =>
    have : i = w.length := by omega
    subst this
    simp [t43, t8, hf]
  have e1 : IntKind.i64.wrap ((i : Int) + 1) = (i : Int) + 1 := w64 (by omega)
  simp [t43, ci, widx .i64 i ci, hbk (by omega), bp i ci]
  by_cases c1 : w[i] = a
  case neg =>
    simp [c1, t43, e1]
    exact agn_mk (w.length - (i + 1)) (by omega) (hJ2 _ _ _ ⟨i + 1, rfl, by omega, by simp, by rw [fold_succ, latS, if_neg (by simp [ci, c1])]; simpa using t8, rfl⟩)
  simp [c1]
  obtain ⟨d1, d2, d3, d4⟩ := dst_spec cb i
  generalize hD : dstM w i b = D at *
  refine wlp [15] 51 63 (by kernel_rfl) (D - 1) (fun k t' α' => ∃ d, k = D - d ∧ 1 ≤ d ∧ d ≤ D ∧ t' 15 = .int .i64 d ∧ α' = δ) ⟨1, by omega, by omega, by omega, by simp, rfl⟩ ?_
  rintro J3 hJ3 k t3 ε ⟨d, rfl, h1, h2, t15, rfl⟩
  have e2 : IntKind.i64.wrap ((i : Int) + d) = (i : Int) + d := w64 (by omega)
  have e3 : IntKind.i64.wrap ((d : Int) + 1) = (d : Int) + 1 := w64 (by omega)
  have hm := Nat.mod_lt (i + d) (show 0 < w.length by omega)
  have em : ((i : Int) + d).tmod w.length = (((i + d) % w.length : Nat) : Int) := by
    rw [show (i : Int) + d = ((i + d : Nat) : Int) by simp]; rfl
  have em' : ((i : Int) + d) % w.length = (((i + d) % w.length : Nat) : Int) := by
    rw [show (i : Int) + d = ((i + d : Nat) : Int) by simp]; rfl
  have d4' := d4 d h1
  have d3' : d = D → w[(i + d) % w.length]? = some b := fun h => by rw [h]; exact d3
  clear d3 d4
  generalize (i + d) % w.length = m at *
  have hw0 : ¬ w.length = 0 := by omega
  have hnz : ¬ w = [] := by intro h; subst h; simp at ci
  by_cases cd : d < D
  · have hne := d4' cd
    rw [List.getElem?_eq_getElem hm] at hne
    have hne : ¬ w[m] = b := fun h => hne (by rw [h])
    simp [t43, t15, wl, e2, em, em', hw0, hnz, widx .i64 _ hm, hbk (by omega), bp _ hm, hne, e3]
    exact agn_mk (D - (d + 1)) (by omega) (hJ3 _ _ _ ⟨d + 1, rfl, by omega, by omega, by simp, rfl⟩)
  · have hdD : d = D := by omega
    have d3 := d3' hdD
    rw [List.getElem?_eq_getElem hm] at d3
    injection d3 with d3
    simp [t43, t15, wl, e2, em, em', hw0, hnz, widx .i64 _ hm, hbk (by omega), bp _ hm, d3, t8, e1]
    refine agn_mk (w.length - (i + 1)) (by omega) (hJ2 _ _ _ ⟨i + 1, rfl, by omega, by simp, ?_, rfl⟩)
    have hS : ∀ M, latS w a b M i = max M (d : Int) := fun M => by rw [latS, if_pos (by rw [List.getElem?_eq_getElem ci, c1]), hD, hdD]
    rw [fold_succ, hS]
    generalize (List.range i).foldl (latS w a b) 0 = M
    rcases Int.lt_or_le M d with h | h
    · simp [h, Int.max_eq_right (Int.le_of_lt h)]
    · simp [Int.not_lt.2 h, Int.max_eq_left h]

/-- A row of ints of one's own, told whole. -/
theorem owi_mem {N : Nat} {α : AH} {v : Value} {w : List Int} (h : OwI N α v w) (hw : 0 < w.length) : ∃ id c cs, v = .slice (some ⟨id, 0, none⟩) w.length c ∧ N ≤ id ∧ id < α.n ∧ α.get id = some ⟨cs, 3, true⟩ ∧ w.length ≤ cs.length ∧ ∀ (i : Nat) (hi : i < w.length), cs[i]? = some (.int .i64 w[i]) := by
  obtain ⟨id, c, cs, h1, h2, h3, h4, h5, h6⟩ := h.mem hw
  rw [show (intK .i64).sz = 1 from rfl, Nat.mul_one] at h5
  refine ⟨id, c, cs, h1, h2, h3, h4, h5, fun i hi => ?_⟩
  have : (cs.drop (i * 1)).take 1 = [.int .i64 w[i]] := h6 i hi
  rw [Nat.mul_one] at this
  exact take_get (j := 0) this (by simp)
theorem count_succ {l : List Int} {i : Nat} (hi : i < l.length) (a : Int) : (l.take (i + 1)).count a = (l.take i).count a + if l[i] = a then 1 else 0 := by
  rw [List.take_succ_eq_append_getElem hi, List.count_append, List.count_singleton]
  simp
set_option maxRecDepth 100000 in
set_option maxHeartbeats 1000000 in
theorem budget_ok (xs : List Rn) (part per : Int) (α : AH) (v : Value) (h : Runs α v xs) (hb : ∀ x ∈ xs, x.n ≤ big) (hl : xs.length ≤ 1000000000) :
    NCalls Try.prog 57 [v, .int .i64 part, .int .i64 per] α (fun r α' => r = .int .i64 (budM xs part per) ∧ Fr α.n α α') := by
  refine ncw mixd Try.func57 rfl Try.results57 (by kernel_rfl) ?_
  simp
  refine (words_ok xs α v h hb hl).mono fun wv β hr => ?_
  obtain ⟨ho, hf⟩ := hr
  have hwl := words_len xs
  rw [budM]
  generalize wordsM xs = w at *
  obtain ⟨-, -, wl, -⟩ := ints_rd1 ho.sl
  by_cases c1 : per < 1
  · simp [wl, c1, budW, hf]
  by_cases c2 : w.length = 0
  · have : w = [] := List.eq_nil_of_length_eq_zero c2
    subst this
    simp at wl
    simp [wl, c1, budW, hf]
  have hnz : ¬ per = 0 := by omega
  obtain ⟨p, rfl⟩ := Int.eq_ofNat_of_zero_le (show 0 ≤ per by omega)
  have hwn : ¬ w = [] := by intro h; subst h; simp at c2
  have hp0 : ¬ p = 0 := by omega
  have hlt := Nat.mod_lt w.length (show 0 < p by omega)
  have em : (w.length : Int).tmod p = ((w.length % p : Nat) : Int) := rfl
  have em' : (w.length : Int) % p = ((w.length % p : Nat) : Int) := rfl
  by_cases c3 : w.length % p = 0
  case neg =>
    obtain ⟨q, hq⟩ : ∃ q, q = w.length % p := ⟨_, rfl⟩
    rw [← hq] at em em' c3 hlt
    have hql : q ≤ w.length := by rw [hq]; exact Nat.mod_le _ _
    have e0 : IntKind.i64.wrap ((q : Int)) = (q : Int) := w64 (by omega)
    have c3' : ¬ (q : Int) = 0 := by omega
    simp [wl, c1, c2, hwn, hp0, hnz, em, em', e0, c3, c3', budW, hf]
  rw [c3] at em em'
  have hdiv := Nat.div_add_mod w.length p
  rw [c3, Nat.add_zero] at hdiv
  have hmul : p * (w.length / p) = (w.length / p) * p := Nat.mul_comm _ _
  have hple : p ≤ w.length := by
    rcases Nat.lt_or_ge w.length p with h | h
    · rw [Nat.mod_eq_of_lt h] at c3; omega
    · exact h
  obtain ⟨id, c, cs, rfl, o1, o2, o3, o4, o5⟩ := owi_mem ho (by omega)
  have e1 : IntKind.i64.wrap ((p : Int) + 1) = (p : Int) + 1 := w64 (by omega)
  have hbw : budW w part p = (List.range (w.length / p)).foldl (budS w part p) (p + 1) := by
    rw [budW, if_neg (by rw [em]; omega)]; simp
  rw [hbw]
  simp [wl, c1, c2, hwn, hp0, hnz, em, em', e1]
  generalize hK : w.length / p = K at *
  refine wlp [8, 9, 10, 12] 31 57 (by kernel_rfl) K (fun k t α' => ∃ j, k = K - j ∧ j ≤ K ∧ t 9 = .int .i64 ((j * p : Nat) : Int) ∧ t 8 = .int .i64 ((List.range j).foldl (budS w part p) (p + 1)) ∧ α' = β)
    ⟨0, by omega, by omega, by simp, by simp, rfl⟩ ?_
  rintro J hJ k t γ ⟨j, rfl, hj, t9, t8, rfl⟩
  generalize hM : (List.range j).foldl (budS w part p) (p + 1) = M at *
  by_cases cj : j < K
  case neg =>
    have : j = K := by omega
    subst this
    have hx : ¬ ((j * p : Nat) : Int) < w.length := by omega
    simp only [Int.natCast_mul] at hx t9
    simp [t9, t8, hx, hM, hf]
  have hm2 : (j + 1) * p ≤ K * p := Nat.mul_le_mul_right _ (by omega)
  rw [Nat.add_mul, Nat.one_mul] at hm2
  have hx : ((j * p : Nat) : Int) < w.length := by omega
  obtain ⟨q, hq⟩ : ∃ q, q = j * p := ⟨_, rfl⟩
  rw [← hq] at hm2 hx t9
  have e2 : IntKind.i64.wrap ((q : Int) + p) = (q : Int) + p := w64 (by omega)
  have hx' : q < w.length := by omega
  simp [t9, hx, hx', e2, aslice, o3, show 0 ≤ (q : Int) + p by omega, show ((q : Int) + p).toNat = q + p by omega, show q + p ≤ w.length by omega]
  have hsub : ∀ i, i < p → cs[q + i]? = some (.int .i64 (w[q + i]?.getD 0)) := fun i hi => by rw [o5 _ (show q + i < w.length by omega), List.getElem?_eq_getElem (by omega)]; rfl
  have htl : ((w.drop q).take p).length = p := by simp; omega
  refine wlp [10, 12] 45 54 (by kernel_rfl) p (fun k t' α' => ∃ i, k = p - i ∧ i ≤ p ∧ t' 45 = .int .i64 i ∧ t' 10 = .int .i64 ((((w.drop q).take p).take i).count part : Nat) ∧ α' = γ)
    ⟨0, by omega, by omega, by simp, by simp, rfl⟩ ?_
  rintro J2 hJ2 k t2 δ ⟨i, rfl, hi, t45, t10, rfl⟩
  by_cases ci : i < p
  case neg =>
    have : i = p := by omega
    subst this
    have ht10 : t2 10 = .int .i64 (((w.drop q).take i).count part : Nat) := by rw [t10, List.take_of_length_le (by omega)]
    have hS : budS w part i M j = min M (((w.drop q).take i).count part : Nat) := by rw [budS, hq]
    generalize ((w.drop q).take i).count part = n at *
    simp [t45, t9, t8, ht10, e2]
    refine agn_mk (K - (j + 1)) (by omega) (hJ _ _ _ ⟨j + 1, rfl, by omega, by simp; rw [hq, Int.add_mul, Int.one_mul]; simp, ?_, rfl⟩)
    rw [fold_succ, hM, hS]
    rcases Int.lt_or_le n M with h | h
    · simp [h, Int.min_eq_right (Int.le_of_lt h)]
    · simp [Int.not_lt.2 h, Int.min_eq_left h]
  have hcl := List.count_le_length (a := part) (l := ((w.drop q).take p).take i)
  have hcl2 : (((w.drop q).take p).take i).length ≤ i := by simp; omega
  have hci : i < ((w.drop q).take p).length := by omega
  have hge : ((w.drop q).take p)[i] = w[q + i]?.getD 0 := by simp [List.getElem?_eq_getElem (show q + i < w.length by omega)]
  have hcs := count_succ hci part
  have e3 : IntKind.i64.wrap ((i : Int) + 1) = (i : Int) + 1 := w64 (by omega)
  have e4 : IntKind.i64.wrap (((((w.drop q).take p).take i).count part : Nat) + 1) = ((((w.drop q).take p).take i).count part : Nat) + 1 := w64 (by omega)
  by_cases cp : w[q + i]?.getD 0 = part
  · rw [hge, if_pos cp] at hcs
    simp [t45, t10, ci, o3, hsub i ci, cp, e3, e4]
    exact agn_mk (p - (i + 1)) (by omega) (hJ2 _ _ _ ⟨i + 1, rfl, by omega, by simp, by rw [hcs]; simp, rfl⟩)
  · rw [hge, if_neg cp] at hcs
    simp [t45, t10, ci, o3, hsub i ci, cp, e3]
    exact agn_mk (p - (i + 1)) (by omega) (hJ2 _ _ _ ⟨i + 1, rfl, by omega, by simp, by rw [hcs]; simpa using t10, rfl⟩)
end Go.Proofs.Ytggkeldedennfaa

set_option linter.unusedVariables false
set_option linter.unusedSimpArgs false
namespace Go.Nod
def nmC (b : UInt8) (i : Nat) : Bool := (decide (97 ≤ b.toNat) && decide (b.toNat ≤ 122)) || (((decide (48 ≤ b.toNat) && decide (b.toNat ≤ 57)) || decide (b.toNat = 95)) && decide (i ≠ 0))
def nameM (s : ByteArray) : Bool := decide (∀ i, i < s.size → nmC (s[i]?.getD 0) i = true) && decide (1 ≤ s.size ∧ s.size ≤ 12)
def prcM (x : Pc) : Bool := decide (0 ≤ x.e ∧ x.e < 512 ∧ 0 ≤ x.q ∧ x.q ≤ 255)
def prtM (p : Pt) : Bool := decide (1 ≤ p.procs.length ∧ p.procs.length ≤ 3) && p.procs.all prcM && p.health.all (fun h => decide (0 ≤ h ∧ h ≤ 2)) &&
  (decide (p.bud = 0 ∧ p.per = 0) || decide (1 ≤ p.bud ∧ p.bud ≤ 4096 ∧ p.bud ≤ p.per ∧ p.per ≤ 4096))
def chnM (x : Cn) (n : Int) : Bool := decide (0 ≤ x.f ∧ x.f < n ∧ 0 ≤ x.t ∧ x.t < n ∧ x.f ≠ x.t ∧ 0 ≤ x.late ∧ x.late ≤ 4096) && (x.q && decide (1 ≤ x.cap ∧ x.cap ≤ 8) || (!x.q && decide (x.cap = 0)))
end Go.Nod
namespace Go.Proofs.Ytggkeldedennfaa
open Go Go.RowKit Go.Lay Go.Nod

theorem any_drop {τ : Type} {l : List τ} {i : Nat} (h : i < l.length) (f : τ → Bool) : (l.drop i).any f = (f l[i] || (l.drop (i + 1)).any f) := by rw [List.drop_eq_getElem_cons h]; rfl
theorem all_drop {τ : Type} {l : List τ} {i : Nat} (h : i < l.length) (f : τ → Bool) : (l.drop i).all f = (f l[i] && (l.drop (i + 1)).all f) := by rw [List.drop_eq_getElem_cons h]; rfl
theorem anyI_iff {τ : Type} (l : List τ) (f : Nat → τ → Bool) : anyI l f = true ↔ ∃ i, ∃ h : i < l.length, f i l[i] = true := by
  simp only [anyI, List.any_eq_true, List.mem_range]
  constructor
  · rintro ⟨i, h, k⟩; exact ⟨i, h, by simpa [h] using k⟩
  · rintro ⟨i, h, k⟩; exact ⟨i, h, by simpa [h] using k⟩
theorem lateM_bd (l : List Rn) (a b : Int) : -1 ≤ lateM l a b ∧ lateM l a b ≤ 8192 := by
  have := words_len l
  unfold lateM latW
  generalize wordsM l = w at *
  split
  · omega
  · split
    · omega
    · rename_i h; have h1 := range_max w a b w.length; have h2 := range_maxb w a b (by simpa using h) w.length; omega

set_option maxRecDepth 100000 in
set_option maxHeartbeats 1000000 in
theorem holds_ok (vp vc vt : Value) (c : Cf) (l : List Rn) (α : AH) (u : Value) (h : IsCfg α (.agg #[vp, vc, vt]) c) (k : Runs α u l) (hlp : c.parts.length ≤ 1000000000) (hlc : c.chans.length ≤ 1000000000) (hb : ∀ x ∈ l, x.n ≤ big) (hl : l.length ≤ 1000000000) :
    NCalls Try.prog 76 [.agg #[vp, vc, vt], u] α (fun r α' => r = .int .i64 (holdsM c l) ∧ Fr α.n α α') := by
  obtain ⟨_, _, _, he, h1, h2, h3⟩ := h
  cases he
  obtain ⟨pid, poff, pl, pidx, pld⟩ := part_rd h1
  obtain ⟨cid, coff, cl, cidx, cld⟩ := h2.rdf (t := 23) Try.underlying23 sz36
  refine ncw mixd Try.func76 rfl Try.results76 (by kernel_rfl) ?_
  simp [h1.isCell, h2.isCell, h3.isCell, cl]
  have hF1 := Fr.alloc0 α ⟨[vp, vc, vt], 26, true⟩
  have hg1 := AH.alloc_get α ⟨[vp, vc, vt], 26, true⟩
  have hn1 := AH.alloc_n α ⟨[vp, vc, vt], 26, true⟩
  generalize α.alloc _ = α1 at *
  have rb : ∀ γ, Fr α1.n α1 γ → γ.get α.n = some ⟨[vp, vc, vt], 26, true⟩ := fun γ hγ => by rw [hγ.get _ (by omega)]; exact hg1
  refine wlp [4, 6, 7] 13 36 (by kernel_rfl) c.chans.length (fun k t α' => ∃ i, k = c.chans.length - i ∧ i ≤ c.chans.length ∧ t 13 = .int .i64 i ∧ (c.chans.any fun x => decide (chBad l x)) = ((c.chans.drop i).any fun x => decide (chBad l x)) ∧ Fr α1.n α1 α')
    ⟨0, by omega, by omega, by simp, by simp, .refl _ _⟩ ?_
  rintro J hJ n t α2 ⟨i, rfl, hi, t13, hany, hf⟩
  have hfα := hF1.trans (hf.mono hF1.n)
  by_cases ci : i < c.chans.length
  · obtain ⟨b, hb', bp⟩ := cld _ hfα
    obtain ⟨b1, b2, -⟩ := bp i ci
    simp only [Cn.enc] at b2
    have e1 : IntKind.i64.wrap ((i : Int) + 1) = (i : Int) + 1 := w64 (by omega)
    have hg2 := AH.alloc_get α2 ⟨c.chans[i].enc, 36, true⟩
    have hn2 := AH.alloc_n α2 ⟨c.chans[i].enc, 36, true⟩
    have hF2 : Fr α1.n α1 (α2.alloc ⟨c.chans[i].enc, 36, true⟩) := hf.alloc hf.n _
    simp only [Cn.enc] at hg2 hn2 hF2
    simp [t13, ci, cidx .i64 i ci, hb' (by omega), b1, b2, aalloc]
    generalize α2.alloc _ = α3 at *
    refine (late_ok l c.chans[i].f c.chans[i].t _ u (k.fr (hF1.trans (hF2.mono hF1.n))) hb hl).mono fun r γ hr => ?_
    obtain ⟨rfl, hg⟩ := hr
    have hF3 := hF2.trans (hg.mono hF2.n)
    have hg3 := (hg.get α2.n (by omega)).trans hg2
    rw [any_drop ci] at hany
    by_cases cb : chBad l c.chans[i]
    · have cb' := cb
      have hh : holdsM c l = 19 := by rw [holdsM, if_pos (by rw [hany]; simp [cb])]
      obtain ⟨q1, q2⟩ := cb
      by_cases q3 : lateM l c.chans[i].f c.chans[i].t < 0
      · simp [hg3, q1, q3, hh, hF1.trans (hF3.mono hF1.n)]
      · have q4 := q2.resolve_left q3
        simp [hg3, q1, q3, q4, hh, hF1.trans (hF3.mono hF1.n)]
    · have fin : ∀ s' : AS, s' 13 = .int .i64 ((i : Int) + 1) → agn J (c.chans.length - i) s' γ := fun s' h =>
        agn_mk (c.chans.length - (i + 1)) (by omega) (hJ _ _ _ ⟨i + 1, rfl, by omega, by simpa using h, by rw [hany]; simp [cb], hF3⟩)
      unfold chBad at cb
      by_cases q1 : 0 < c.chans[i].late
      · have q3 : ¬ lateM l c.chans[i].f c.chans[i].t < 0 := fun h => cb ⟨q1, .inl h⟩
        have q4 : ¬ c.chans[i].late < lateM l c.chans[i].f c.chans[i].t := fun h => cb ⟨q1, .inr h⟩
        simp [hg3, q1, q3, q4, t13, e1]
        exact fin _ (by simp)
      · simp [hg3, q1, t13, e1]
        exact fin _ (by simp)
  have : i = c.chans.length := by omega
  subst this
  rw [List.drop_length, List.any_nil] at hany
  simp [t13, rb _ hf, pl]
  refine wlp [4, 8, 9] 40 58 (by kernel_rfl) c.parts.length (fun k t α' => ∃ i, k = c.parts.length - i ∧ i ≤ c.parts.length ∧ t 40 = .int .i64 i ∧ (∀ j (hj : j < c.parts.length), j < i → ¬ prBad l j c.parts[j]) ∧ Fr α1.n α1 α')
    ⟨0, by omega, by omega, by simp, fun j _ hj => by omega, hf⟩ ?_
  rintro J2 hJ2 n t2 α3 ⟨i, rfl, hi, t40, hno, hf⟩
  have hfα := hF1.trans (hf.mono hF1.n)
  by_cases ci : i < c.parts.length
  · obtain ⟨b, hb', bp⟩ := pld _ hfα
    obtain ⟨vq, g0, g1, g2, g3, g4, b1, b2, b3, b4, -⟩ := bp i ci
    have e1 : IntKind.i64.wrap ((i : Int) + 1) = (i : Int) + 1 := w64 (by omega)
    have cq := b4.isCell
    have hg2 := AH.alloc_get α3 ⟨[.string c.parts[i].name, .int .i64 c.parts[i].bud, .int .i64 c.parts[i].per, .bool c.parts[i].sched, .bool c.parts[i].stop, vq, .int .i64 g0, .int .i64 g1, .int .i64 g2, .int .i64 g3, .int .i64 g4], 68, true⟩
    have hn2 := AH.alloc_n α3 ⟨[.string c.parts[i].name, .int .i64 c.parts[i].bud, .int .i64 c.parts[i].per, .bool c.parts[i].sched, .bool c.parts[i].stop, vq, .int .i64 g0, .int .i64 g1, .int .i64 g2, .int .i64 g3, .int .i64 g4], 68, true⟩
    have hF2 : Fr α1.n α1 (α3.alloc ⟨[.string c.parts[i].name, .int .i64 c.parts[i].bud, .int .i64 c.parts[i].per, .bool c.parts[i].sched, .bool c.parts[i].stop, vq, .int .i64 g0, .int .i64 g1, .int .i64 g2, .int .i64 g3, .int .i64 g4], 68, true⟩) := hf.alloc hf.n _
    simp [t40, ci, pidx .i64 i ci, hb' (by omega), b1, b2, aalloc, cq]
    generalize α3.alloc _ = α4 at *
    refine wdraw (tks [0, 0, 0, 0, 0, 0, 0, 0, 1] (.pick (.cons 0 (.take 0 (.take 0 (.take 0 (.done)))) (.cons 1 (.pick (.cons 0 (.take 0 (.take 0 (.done))) .nil)) .nil)))) (by kernel_rfl) ?_
    have fin : ∀ (s' : AS) (γ : AH), s' 40 = .int .i64 ((i : Int) + 1) → ¬ prBad l i c.parts[i] → Fr α1.n α1 γ → agn J2 (c.parts.length - i) s' γ := fun s' γ h1 h2 h3 =>
      agn_mk (c.parts.length - (i + 1)) (by omega) (hJ2 _ _ _ ⟨i + 1, rfl, by omega, by simpa using h1, fun j hj1 hj2 => by
        by_cases hji : j = i
        · subst hji; exact h2
        · exact hno j hj1 (by omega), h3⟩)
    by_cases q1 : 0 < c.parts[i].bud
    case neg =>
      simp [hg2, q1, t40, e1]
      refine ⟨?_, ?_⟩
      all_goals exact fin _ _ (by simp) (fun h => q1 h.1) hF2
    simp [hg2, q1]
    refine ⟨?_, ?_⟩
    all_goals
      refine (budget_ok l _ _ _ u (k.fr (hF1.trans (hF2.mono hF1.n))) hb hl).mono fun r γ hr => ?_
      obtain ⟨rfl, hg⟩ := hr
      have hF3 := hF2.trans (hg.mono hF2.n)
      have hg3 := (hg.get α3.n (by omega)).trans hg2
      by_cases q2 : budM l i c.parts[i].per < c.parts[i].bud
      · have hh : holdsM c l = 20 := by
          rw [holdsM, if_neg (by rw [hany]; simp), if_pos]
          rw [anyI_iff]
          exact ⟨i, ci, by simp [prBad, q1, q2]⟩
        simp [hg3, q1, q2, hh, hF1.trans (hF3.mono hF1.n)]
      · simp [hg3, q1, q2, t40, e1]
        exact fin _ _ (by simp) (fun h => q2 h.2) hF3
  · have : i = c.parts.length := by omega
    subst this
    have hh : holdsM c l = 0 := by
      rw [holdsM, if_neg (by rw [hany]; simp), if_neg]
      rw [anyI_iff]
      rintro ⟨j, hj, hx⟩
      exact hno j hj hj (by simpa using hx)
    simp [t40, hh, hfα]
end Go.Proofs.Ytggkeldedennfaa

set_option linter.unusedVariables false
set_option linter.unusedSimpArgs false
namespace Go.Proofs.Ytggkeldedennfaa
open Go Go.RowKit Go.Lay Go.Nod

set_option maxRecDepth 100000 in
set_option maxHeartbeats 1000000 in
theorem rname_ok (s : ByteArray) (α : AH) (hl : s.size ≤ 1000000000000) : NCalls Try.prog 73 [.string s] α (fun r α' => r = .bool (nameM s) ∧ α' = α) := by
  refine ncg mixd Try.func73 rfl Try.results73 (by kernel_rfl) ?_
  simp
  refine wlp [] 2 44 (by kernel_rfl) s.size (fun k t α' => ∃ i, k = s.size - i ∧ i ≤ s.size ∧ t 3 = .int .i64 i ∧ (∀ j, j < i → nmC (s[j]?.getD 0) j = true) ∧ α' = α) ⟨0, by omega, by omega, by simp, fun j hj => by omega, rfl⟩ ?_
  rintro J hJ k t α1 ⟨i, rfl, hi, t3, hall, rfl⟩
  by_cases ci : i < s.size
  · obtain ⟨b, hb⟩ : ∃ b, s[i]? = some b := ⟨s[i], getElem?_pos s i ci⟩
    have hbi : s[i] = b := by rw [getElem?_pos s i ci] at hb; injection hb
    have e1 : IntKind.i64.wrap ((i : Int) + 1) = (i : Int) + 1 := w64 (by omega)
    have fin : ∀ s' : AS, s' 3 = .int .i64 ((i : Int) + 1) → nmC b i = true → agn J (s.size - i) s' α1 := fun s' h1 h2 => agn_mk (s.size - (i + 1)) (by omega) (hJ _ _ _ ⟨i + 1, rfl, by omega, by simpa using h1, fun j hj => by
      by_cases hji : j = i
      · subst hji; simpa [hb] using h2
      · exact hall j (by omega), rfl⟩)
    have bad : nmC b i = false → nameM s = false := fun h => by
      simp only [nameM, Bool.and_eq_false_iff, decide_eq_false_iff_not]
      refine .inl fun hA => ?_
      have := hA i ci
      simp [hb, h] at this
    simp [t3, ci, hbi, e1]
    refine ⟨fun h => bad ?_, fun h => fin _ (by simp) ?_⟩
    · simp only [nmC, Bool.or_eq_false_iff, Bool.and_eq_false_iff, decide_eq_false_iff_not]; omega
    · simp only [nmC, Bool.or_eq_true, Bool.and_eq_true, decide_eq_true_eq]; omega
  · have : i = s.size := by omega
    subst this
    have hA : nameM s = decide (1 ≤ s.size ∧ s.size ≤ 12) := by rw [nameM, decide_eq_true hall, Bool.true_and]
    simp [t3, hA]
    rw [Bool.eq_iff_iff]
    simp
    omega

set_option maxRecDepth 100000 in
theorem chanRight_ok (x : Cn) (n : Int) (α : AH) : NCalls Try.prog 75 [.agg #[.int .i64 x.f, .int .i64 x.t, .bool x.q, .int .i64 x.cap, .int .u32 x.max, .int .i64 x.late], .int .i64 n] α (fun r α' => r = .bool (chnM x n) ∧ Fr α.n α α') := by
  refine ncg mixd Try.func75 rfl Try.results75 (by kernel_rfl) ?_
  simp
  refine ⟨fun h => ?_, fun h => ?_⟩
  · simp only [chnM, Bool.and_eq_false_iff, decide_eq_false_iff_not]; left; omega
  · have hc : 0 ≤ x.f ∧ x.f < n ∧ 0 ≤ x.t ∧ x.t < n ∧ x.f ≠ x.t ∧ 0 ≤ x.late ∧ x.late ≤ 4096 := by omega
    simp only [chnM, decide_eq_true hc, Bool.true_and]
    cases x.q <;> simp [beqI]
set_option maxRecDepth 100000 in
theorem partRight_ok (x : Pt) (α : AH) (c : List Value) (h : prtR α x c) : NCalls Try.prog 74 [.agg c.toArray] α (fun r α' => r = .bool (prtM x) ∧ Fr α.n α α') := by
  obtain ⟨vp, h0, h1, h2, h3, h4, rfl, hh, hp⟩ := h
  obtain ⟨qi, qo, ql, qidx, qld⟩ := hp.rdf (t := 65) Try.underlying65 sz70
  refine ncg mixd Try.func74 rfl Try.results74 (by kernel_rfl) ?_
  simp [hp.isCell, ql]
  refine ⟨fun h => ?_, fun h => ?_⟩
  · simp only [prtM, Bool.and_eq_false_iff, decide_eq_false_iff_not]; left; left; left; omega
  have hF1 := Fr.alloc0 α ⟨[.string x.name, .int .i64 x.bud, .int .i64 x.per, .bool x.sched, .bool x.stop, vp, .int .i64 h0, .int .i64 h1, .int .i64 h2, .int .i64 h3, .int .i64 h4], 68, true⟩
  have hg1 := AH.alloc_get α ⟨[.string x.name, .int .i64 x.bud, .int .i64 x.per, .bool x.sched, .bool x.stop, vp, .int .i64 h0, .int .i64 h1, .int .i64 h2, .int .i64 h3, .int .i64 h4], 68, true⟩
  have hn1 := AH.alloc_n α ⟨[.string x.name, .int .i64 x.bud, .int .i64 x.per, .bool x.sched, .bool x.stop, vp, .int .i64 h0, .int .i64 h1, .int .i64 h2, .int .i64 h3, .int .i64 h4], 68, true⟩
  generalize α.alloc _ = α1 at *
  refine wlp [2, 4] 20 42 (by kernel_rfl) x.procs.length (fun k t α' => ∃ i, k = x.procs.length - i ∧ i ≤ x.procs.length ∧ t 20 = .int .i64 i ∧ x.procs.all prcM = (x.procs.drop i).all prcM ∧ Fr α1.n α1 α')
    ⟨0, by omega, by omega, by simp, by simp, .refl _ _⟩ ?_
  rintro J hJ k t α2 ⟨i, rfl, hi, t20, hall, hf⟩
  by_cases ci : i < x.procs.length
  · obtain ⟨b, hb, bp⟩ := qld _ (hF1.trans (hf.mono hF1.n))
    obtain ⟨b1, b2, -⟩ := bp i ci
    simp only [Pc.enc] at b2
    have e1 : IntKind.i64.wrap ((i : Int) + 1) = (i : Int) + 1 := w64 (by omega)
    rw [all_drop ci] at hall
    simp [t20, ci, qidx .i64 i ci, hb (by omega), b1, b2, aalloc, e1]
    refine ⟨fun h => ⟨?_, ?_⟩, fun h => agn_mk (x.procs.length - (i + 1)) (by omega) (hJ _ _ _ ⟨i + 1, rfl, by omega, by simp, ?_, hf.alloc hf.n _⟩)⟩
    · have : prcM x.procs[i] = false := by simp only [prcM, decide_eq_false_iff_not]; omega
      rw [this, Bool.false_and] at hall
      simp [prtM, hall]
    · exact hF1.trans ((hf.alloc hf.n _).mono hF1.n)
    · have : prcM x.procs[i] = true := by simp only [prcM, decide_eq_true_eq]; omega
      rw [hall, this, Bool.true_and]
  have : i = x.procs.length := by omega
  subst this
  rw [List.drop_length, List.all_nil] at hall
  have hgα := (hf.get α.n (by omega)).trans hg1
  simp [t20, hgα]
  have hs : x.health.all (fun h => decide (0 ≤ h ∧ h ≤ 2)) = [h0, h1, h2, h3, h4].all (fun h => decide (0 ≤ h ∧ h ≤ 2)) := by rw [hh]
  refine wlp [2, 6] 45 54 (by kernel_rfl) 5 (fun k t' α' => ∃ i, k = 5 - i ∧ i ≤ 5 ∧ t' 45 = .int .i64 i ∧ x.health.all (fun h => decide (0 ≤ h ∧ h ≤ 2)) = ([h0, h1, h2, h3, h4].drop i).all (fun h => decide (0 ≤ h ∧ h ≤ 2)) ∧ α' = α2)
    ⟨0, by omega, by omega, by simp, by simpa using hs, rfl⟩ ?_
  rintro J2 hJ2 k t2 α3 ⟨i, rfl, hi, t45, hal, rfl⟩
  have hfα := hF1.trans (hf.mono hF1.n)
  by_cases ci : i < 5
  · have no : ∀ h, [h0, h1, h2, h3, h4][i]? = some h → ¬ (0 ≤ h ∧ h ≤ 2) → prtM x = false := fun h he hn => by
      have hm : h ∈ x.health := by rw [hh]; exact List.mem_of_getElem? he
      have : x.health.all (fun h => decide (0 ≤ h ∧ h ≤ 2)) = false := by
        rw [List.all_eq_false]
        exact ⟨h, hm, by simpa using hn⟩
      simp only [prtM, this, Bool.and_false, Bool.false_and]
    have ye : ∀ (s' : AS) h, [h0, h1, h2, h3, h4][i]? = some h → s' 45 = .int .i64 ((i : Int) + 1) → 0 ≤ h ∧ h ≤ 2 → agn J2 (5 - i) s' α3 := fun s' h he h1 h2 =>
      agn_mk (5 - (i + 1)) (by omega) (hJ2 _ _ _ ⟨i + 1, rfl, by omega, by simpa using h1, by
        obtain ⟨hlt, hge⟩ := List.getElem?_eq_some_iff.1 he
        rw [hal, all_drop hlt, hge]; simp [h2], rfl⟩)
    rcases (by omega : i = 0 ∨ i = 1 ∨ i = 2 ∨ i = 3 ∨ i = 4) with rfl | rfl | rfl | rfl | rfl
    all_goals
      simp [t45, w64]
      refine ⟨fun h => ⟨no _ rfl (by omega), hfα⟩, fun h => ye _ _ rfl (by simp) (by omega)⟩
  · have : i = 5 := by omega
    subst this
    have hA : prtM x = (decide (x.bud = 0 ∧ x.per = 0) || decide (1 ≤ x.bud ∧ x.bud ≤ 4096 ∧ x.bud ≤ x.per ∧ x.per ≤ 4096)) := by
      rw [prtM, hall, hal, decide_eq_true (by omega)]
      simp
    simp [t45, hgα, hfα, hA]
    refine ⟨fun h => ?_, fun h => ?_⟩
    · simp [h]
    · rw [Bool.eq_iff_iff]
      simp
      omega
end Go.Proofs.Ytggkeldedennfaa

set_option linter.unusedVariables false
set_option linter.unusedSimpArgs false
namespace Go.Nod
/-- the first one of a row of which something is told, what, and its place -/
def firstI {τ : Type} (f : Nat → τ → Int) : Nat → List τ → Option (Int × Int)
  | _, [] => none
  | i, x :: xs => if f i x ≠ 0 then some (f i x, (i : Int)) else firstI f (i + 1) xs
theorem firstI_drop {τ : Type} (f : Nat → τ → Int) {l : List τ} {i : Nat} (h : i < l.length) : firstI f i (l.drop i) = if f i l[i] ≠ 0 then some (f i l[i], (i : Int)) else firstI f (i + 1) (l.drop (i + 1)) := by
  rw [List.drop_eq_getElem_cons h]; rfl
def ptE (c : Cf) (i : Nat) (p : Pt) : Int := if nameM p.name = false then 15 else if (c.parts.take i).any (fun q => q.name.toList == p.name.toList) = true then 15 else if prtM p = false then 16 else 0
def chE (c : Cf) (i : Nat) (x : Cn) : Int := if chnM x c.parts.length = false then 17 else 0
noncomputable def tbE (c : Cf) (i : Nat) (t : List Nd) : Int := if (ofM t).2 ≠ 0 then (ofM t).2 else if (ofM t).1.any (fun r => decide ((c.parts.length : Int) ≤ r.p)) = true then 16 else holdsM c (ofM t).1
def fitM (c : Cf) : Prop := 1 ≤ c.parts.length ∧ c.parts.length ≤ 6 ∧ c.chans.length ≤ 8 ∧ 1 ≤ c.tabs.length ∧ c.tabs.length ≤ 3
open Classical in
noncomputable def whereM (c : Cf) : Int × Int := if fitM c then
    match firstI (ptE c) 0 c.parts with
    | some r => r
    | none => match firstI (chE c) 0 c.chans with
      | some r => r
      | none => match firstI (tbE c) 0 c.tabs with
        | some r => r
        | none => (0, -1)
  else (3, 0)
end Go.Nod
namespace Go.Proofs.Ytggkeldedennfaa
open Go Go.RowKit Go.Lay Go.Nod

theorem of_bd (t : List Nd) : (∀ r ∈ (ofM t).1, 1 ≤ r.n ∧ r.n ≤ big) ∧ (ofM t).1.length ≤ 96 := by
  have key : ∀ (xs out : List Rn), (∀ r ∈ xs, r.n ≤ big) → (∀ r ∈ out, 1 ≤ r.n ∧ r.n ≤ big) → ∀ r ∈ xs.foldl tdS out, 1 ≤ r.n ∧ r.n ≤ big := by
    intro xs
    induction xs with
    | nil => intro out _ h; exact h
    | cons x xs ih =>
      intro out hx ho
      refine ih _ (fun r hr => hx r (List.mem_cons_of_mem _ hr)) ?_
      unfold tdS
      have hxb := hx x (by simp)
      split
      · exact ho
      · rename_i hx1
        split
        · rename_i q hq
          have hqo := ho q (List.mem_of_getLast? hq)
          split
          · intro r hr
            simp at hr
            rcases hr with hr | rfl
            · exact ho r ((List.dropLast_sublist _).subset hr)
            · have := sumM_bd q.n x.n hqo.2
              refine ⟨?_, this.2⟩
              show 1 ≤ sumM q.n x.n
              unfold sumM pos0 big at *
              (repeat' split) <;> omega
          · intro r hr
            simp at hr
            rcases hr with hr | rfl
            · exact ho r hr
            · exact ⟨by omega, hxb⟩
        · intro r hr
          simp at hr
          subst hr
          exact ⟨by omega, hxb⟩
  unfold ofM
  split
  · simp
  · rename_i h
    have h : rtM t = 0 := by simpa using h
    split
    · simp
    · rename_i h2
      simp only
      exact ⟨key _ _ (fun r hr => by have := (leaves_bd h).2 r hr; unfold big; omega) (by simp), by omega⟩

set_option maxRecDepth 100000 in
set_option maxHeartbeats 2000000 in
theorem where_ok (vp vc vt : Value) (c : Cf) (α : AH) (h : IsCfg α (.agg #[vp, vc, vt]) c) (hn : ∀ p ∈ c.parts, p.name.size ≤ 1000000000000) (ht : ∀ t ∈ c.tabs, t.length ≤ 1000000) :
    NCalls Try.prog 71 [.agg #[vp, vc, vt]] α (fun r α' => r = .tuple #[.int .i64 (whereM c).1, .int .i64 (whereM c).2] ∧ Fr α.n α α') := by
  have h0 := h
  obtain ⟨_, _, _, he, h1, h2, h3⟩ := h
  cases he
  obtain ⟨pid, poff, pl, pidx, pld⟩ := part_rd h1
  obtain ⟨cid, coff, cl, cidx, cld⟩ := h2.rdf (t := 23) Try.underlying23 sz36
  obtain ⟨tid, toff, tl, tidx, tld⟩ := h3.rd1 (t := 24) Try.underlying24 sz49
  rw [show (sliceK 55 nodeK).sz = 1 from rfl] at tidx tld
  simp only [Nat.mul_one] at tidx tld
  refine ncg mixd Try.func71 rfl Try.results71 (by kernel_rfl) ?_
  simp [h1.isCell, h2.isCell, h3.isCell, pl, cl, tl]
  refine ⟨fun h => ?_, fun h => ?_⟩
  · rw [whereM, if_neg (by unfold fitM; omega)]; simp
  have hfit : fitM c := by unfold fitM; omega
  obtain ⟨f1, f2, f3, f4, f5⟩ := hfit
  have hF1 := Fr.alloc0 α ⟨[vp, vc, vt], 26, true⟩
  have hg1 := AH.alloc_get α ⟨[vp, vc, vt], 26, true⟩
  have hn1 := AH.alloc_n α ⟨[vp, vc, vt], 26, true⟩
  generalize α.alloc _ = α1 at *
  have rb : ∀ γ, Fr α1.n α1 γ → γ.get α.n = some ⟨[vp, vc, vt], 26, true⟩ := fun γ hγ => by rw [hγ.get _ (by omega)]; exact hg1
  refine wlp [2, 3, 4, 5, 6] 47 76 (by kernel_rfl) c.parts.length (fun k t α' => ∃ i, k = c.parts.length - i ∧ i ≤ c.parts.length ∧ t 47 = .int .i64 i ∧ firstI (ptE c) 0 c.parts = firstI (ptE c) i (c.parts.drop i) ∧ Fr α1.n α1 α')
    ⟨0, by omega, by omega, by simp, by simp, .refl _ _⟩ ?_
  rintro J hJ n t α2 ⟨i, rfl, hi, t47, hfirst, hf⟩
  have hfα := hF1.trans (hf.mono hF1.n)
  by_cases ci : i < c.parts.length
  · obtain ⟨b, hb', bp⟩ := pld _ hfα
    obtain ⟨vq, g0, g1, g2, g3, g4, b1, b2, b3, b4, -⟩ := bp i ci
    have e1 : IntKind.i64.wrap ((i : Int) + 1) = (i : Int) + 1 := w64 (by omega)
    have cq := b4.isCell
    have hg2 := AH.alloc_get α2 ⟨[.string c.parts[i].name, .int .i64 c.parts[i].bud, .int .i64 c.parts[i].per, .bool c.parts[i].sched, .bool c.parts[i].stop, vq, .int .i64 g0, .int .i64 g1, .int .i64 g2, .int .i64 g3, .int .i64 g4], 68, true⟩
    have hn2 := AH.alloc_n α2 ⟨[.string c.parts[i].name, .int .i64 c.parts[i].bud, .int .i64 c.parts[i].per, .bool c.parts[i].sched, .bool c.parts[i].stop, vq, .int .i64 g0, .int .i64 g1, .int .i64 g2, .int .i64 g3, .int .i64 g4], 68, true⟩
    have hF2 : Fr α1.n α1 (α2.alloc ⟨[.string c.parts[i].name, .int .i64 c.parts[i].bud, .int .i64 c.parts[i].per, .bool c.parts[i].sched, .bool c.parts[i].stop, vq, .int .i64 g0, .int .i64 g1, .int .i64 g2, .int .i64 g3, .int .i64 g4], 68, true⟩) := hf.alloc hf.n _
    have b4' := b4.fr (Fr.alloc0 α2 ⟨[.string c.parts[i].name, .int .i64 c.parts[i].bud, .int .i64 c.parts[i].per, .bool c.parts[i].sched, .bool c.parts[i].stop, vq, .int .i64 g0, .int .i64 g1, .int .i64 g2, .int .i64 g3, .int .i64 g4], 68, true⟩)
    simp [t47, ci, pidx .i64 i ci, hb' (by omega), b1, b2, aalloc, cq]
    generalize α2.alloc _ = α3 at *
    have hfα3 := hF1.trans (hF2.mono hF1.n)
    rw [firstI_drop _ ci] at hfirst
    have told : ∀ e : Int, ptE c i c.parts[i] = e → e ≠ 0 → whereM c = (e, (i : Int)) := fun e h1 h2 => by
      rw [whereM, if_pos ⟨f1, f2, f3, f4, f5⟩, hfirst, if_pos (by rw [h1]; exact h2), h1]
    have hsz := hn _ (List.getElem_mem ci)
    refine (rname_ok _ _ hsz).mono fun r β hr => ?_
    obtain ⟨rfl, hβ⟩ := hr
    obtain rfl : α3 = β := hβ.symm
    cases hnm : nameM c.parts[i].name with
    | false =>
      have := told 15 (by rw [ptE, if_pos hnm]) (by decide)
      simp [hg2, this, hfα3]
    | true =>
    simp [hg2]
    refine wlp [2, 3, 6] 57 71 (by kernel_rfl) i (fun k t' α' => ∃ j, k = i - j ∧ j ≤ i ∧ t' 6 = .int .i64 j ∧ (∀ q ∈ c.parts.take j, (q.name.toList == c.parts[i].name.toList) = false) ∧ α' = α3)
      ⟨0, by omega, by omega, by simp, by simp, rfl⟩ ?_
    rintro J2 hJ2 n2 t2 α4 ⟨j, rfl, hj, t6, hno, rfl⟩
    by_cases cj : j < i
    · have cj' : j < c.parts.length := by omega
      obtain ⟨b', hb2, bp'⟩ := pld _ hfα3
      obtain ⟨_, _, _, _, _, _, -, -, -, -, nj, -⟩ := bp' j cj'
      have e2 : IntKind.i64.wrap ((j : Int) + 1) = (j : Int) + 1 := w64 (by omega)
      simp [t6, cj]
      refine wdraw (tks [0, 0, 0, 0, 0, 0, 0, 0, 0] (.done)) (by kernel_rfl) ?_
      simp [t6, rb _ hF2, pidx .i64 j cj', hb2 (by omega), nj, hg2]
      cases hq : (c.parts[j].name.toList == c.parts[i].name.toList) with
      | true =>
        have := told 15 (by
          rw [ptE, if_neg (by simp [hnm]), if_pos]
          rw [List.any_eq_true]
          exact ⟨c.parts[j], List.mem_take_iff_getElem.2 ⟨j, by omega, rfl⟩, hq⟩) (by decide)
        have hq' : c.parts[j].name.toList = c.parts[i].name.toList := by simpa using hq
        simp [hq', this, hfα3]
      | false =>
        have hq' : ¬ c.parts[j].name.toList = c.parts[i].name.toList := by simpa using hq
        simp [hq', t6, e2]
        refine agn_mk (i - (j + 1)) (by omega) (hJ2 _ _ _ ⟨j + 1, rfl, by omega, by simp, fun q hq2 => ?_, rfl⟩)
        rw [List.take_succ_eq_append_getElem cj', List.mem_append, List.mem_singleton] at hq2
        rcases hq2 with hq2 | rfl
        · exact hno q hq2
        · exact hq
    · have : j = i := by omega
      subst this
      simp [t6, hg2]
      refine (partRight_ok c.parts[j] _ _ ⟨vq, g0, g1, g2, g3, g4, rfl, b3, b4'⟩).mono fun r β hr => ?_
      obtain ⟨rfl, hg⟩ := hr
      have hany : ((c.parts.take j).any fun q => q.name.toList == c.parts[j].name.toList) = false := by
        rw [List.any_eq_false]; intro q hq; rw [hno q hq]; simp
      have hF3 := hF2.trans (hg.mono hF2.n)
      cases hpr : prtM c.parts[j] with
      | false =>
        have := told 16 (by rw [ptE, if_neg (by simp [hnm]), if_neg (by simp [hany]), if_pos hpr]) (by decide)
        simp [this, hF1.trans (hF3.mono hF1.n)]
      | true =>
        simp [t47, e1]
        refine agn_mk (c.parts.length - (j + 1)) (by omega) (hJ _ _ _ ⟨j + 1, rfl, by omega, by simp, ?_, hF3⟩)
        rw [hfirst, if_neg (by rw [ptE, if_neg (by simp [hnm]), if_neg (by simp [hany]), if_neg (by simp [hpr])]; simp)]
  have : i = c.parts.length := by omega
  subst this
  rw [List.drop_length, firstI] at hfirst
  clear hJ
  simp [t47, rb _ hf, cl]
  refine wlp [2, 3, 7, 8] 80 92 (by kernel_rfl) c.chans.length (fun k t α' => ∃ i, k = c.chans.length - i ∧ i ≤ c.chans.length ∧ t 80 = .int .i64 i ∧ firstI (chE c) 0 c.chans = firstI (chE c) i (c.chans.drop i) ∧ Fr α1.n α1 α')
    ⟨0, by omega, by omega, by simp, by simp, hf⟩ ?_
  rintro J hJ n t3 α3 ⟨i, rfl, hi, t80, hfirst2, hf⟩
  have hfα := hF1.trans (hf.mono hF1.n)
  by_cases ci : i < c.chans.length
  · obtain ⟨b, hb', bp⟩ := cld _ hfα
    obtain ⟨b1, b2, -⟩ := bp i ci
    simp only [Cn.enc] at b2
    have e1 : IntKind.i64.wrap ((i : Int) + 1) = (i : Int) + 1 := w64 (by omega)
    have hg2 := AH.alloc_get α3 ⟨c.chans[i].enc, 36, true⟩
    have hn2 := AH.alloc_n α3 ⟨c.chans[i].enc, 36, true⟩
    have hF2 : Fr α1.n α1 (α3.alloc ⟨c.chans[i].enc, 36, true⟩) := hf.alloc hf.n _
    simp only [Cn.enc] at hg2 hn2 hF2
    simp [t80, ci, cidx .i64 i ci, hb' (by omega), b1, b2, aalloc]
    generalize α3.alloc _ = α4 at *
    simp [hg2, rb _ hF2, pl]
    refine (chanRight_ok c.chans[i] c.parts.length _).mono fun r β hr => ?_
    obtain ⟨rfl, hg⟩ := hr
    have hF3 := hF2.trans (hg.mono hF2.n)
    rw [firstI_drop _ ci] at hfirst2
    cases hch : chnM c.chans[i] c.parts.length with
    | false =>
      have e : chE c i c.chans[i] = 17 := by rw [chE, if_pos hch]
      have : whereM c = (17, (i : Int)) := by rw [whereM, if_pos ⟨f1, f2, f3, f4, f5⟩, hfirst, hfirst2, if_pos (by rw [e]; decide), e]
      simp [this, hF1.trans (hF3.mono hF1.n)]
    | true =>
      simp [t80, e1]
      refine agn_mk (c.chans.length - (i + 1)) (by omega) (hJ _ _ _ ⟨i + 1, rfl, by omega, by simp, ?_, hF3⟩)
      rw [hfirst2, if_neg (by rw [chE, if_neg (by simp [hch])]; simp)]
  have : i = c.chans.length := by omega
  subst this
  rw [List.drop_length, firstI] at hfirst2
  clear hJ
  simp [t80, rb _ hf, tl]
  refine wlp [2, 3, 9, 10, 11, 12, 14, 15] 96 131 (by kernel_rfl) c.tabs.length (fun k t α' => ∃ i, k = c.tabs.length - i ∧ i ≤ c.tabs.length ∧ t 96 = .int .i64 i ∧ firstI (tbE c) 0 c.tabs = firstI (tbE c) i (c.tabs.drop i) ∧ Fr α1.n α1 α')
    ⟨0, by omega, by omega, by simp, by simp, hf⟩ ?_
  rintro J hJ n t4 α4 ⟨i, rfl, hi, t96, hfirst3, hf⟩
  have hfα := hF1.trans (hf.mono hF1.n)
  by_cases ci : i < c.tabs.length
  case neg =>
    have : i = c.tabs.length := by omega
    subst this
    rw [List.drop_length, firstI] at hfirst3
    have : whereM c = (0, -1) := by rw [whereM, if_pos ⟨f1, f2, f3, f4, f5⟩, hfirst, hfirst2, hfirst3]
    simp [t96, this, hfα]
  obtain ⟨b, hb', bp⟩ := tld _ hfα
  obtain ⟨bf, u, bu, hN⟩ := bp i ci
  have bu : b.cells[toff + i]? = some u := take_get (j := 0) bu (by simp)
  rw [firstI_drop _ ci] at hfirst3
  have told : ∀ e : Int, tbE c i c.tabs[i] = e → e ≠ 0 → whereM c = (e, (i : Int)) := fun e h1 h2 => by
    rw [whereM, if_pos ⟨f1, f2, f3, f4, f5⟩, hfirst, hfirst2, hfirst3, if_pos (by rw [h1]; exact h2), h1]
  have htl := ht _ (List.getElem_mem ci)
  have e1 : IntKind.i64.wrap ((i : Int) + 1) = (i : Int) + 1 := w64 (by omega)
  simp [t96, ci, tidx .i64 i ci, hb' (by omega), bu]
  refine (of_ok c.tabs[i] _ u hN (by omega)).mono fun r β hr => ?_
  obtain ⟨ul, rfl, ho, hg⟩ := hr
  obtain ⟨ob1, ob2⟩ := of_bd c.tabs[i]
  have hF3 := hf.trans (hg.mono hf.n)
  have hfα3 := hF1.trans (hF3.mono hF1.n)
  by_cases c1 : (ofM c.tabs[i]).2 = 0
  case neg =>
    have := told _ (by rw [tbE, if_pos c1]) c1
    simp [c1, t96, this, hfα3]
  obtain ⟨li, lo, ll, lidx, lld⟩ := ho.sl.rdf (t := 84) Try.underlying84 sz102
  simp [c1, t96, ll]
  refine wlp [2, 3, 14] 112 123 (by kernel_rfl) (ofM c.tabs[i]).1.length (fun k t' α' => ∃ j, k = (ofM c.tabs[i]).1.length - j ∧ j ≤ (ofM c.tabs[i]).1.length ∧ t' 112 = .int .i64 j ∧ ((ofM c.tabs[i]).1.any fun r => decide ((c.parts.length : Int) ≤ r.p)) = (((ofM c.tabs[i]).1.drop j).any fun r => decide ((c.parts.length : Int) ≤ r.p)) ∧ Fr β.n β α')
    ⟨0, by omega, by omega, by simp, by simp, .refl _ _⟩ ?_
  rintro J2 hJ2 n2 t5 α5 ⟨j, rfl, hj, t112, hany, hf5⟩
  have hF5 := hF3.trans (hf5.mono hF3.n)
  have hfα5 := hF1.trans (hF5.mono hF1.n)
  by_cases cj : j < (ofM c.tabs[i]).1.length
  · obtain ⟨b', hb2, bp'⟩ := lld _ hf5
    obtain ⟨b3, b4, -⟩ := bp' j cj
    simp only [Rn.enc] at b4
    have e2 : IntKind.i64.wrap ((j : Int) + 1) = (j : Int) + 1 := w64 (by omega)
    have hF6 : Fr α1.n α1 (α5.alloc ⟨[.int .i64 (ofM c.tabs[i]).1[j].p, .int .i64 (ofM c.tabs[i]).1[j].n], 102, true⟩) := hF5.alloc hF5.n _
    rw [any_drop cj] at hany
    simp [t112, cj, lidx .i64 j cj, hb2 (by omega), b3, b4, aalloc, rb _ hF6, pl, e2]
    refine ⟨fun h => ?_, fun h => agn_mk ((ofM c.tabs[i]).1.length - (j + 1)) (by omega) (hJ2 _ _ _ ⟨j + 1, rfl, by omega, by simp, ?_, hf5.alloc hf5.n _⟩)⟩
    · have := told 16 (by rw [tbE, if_neg (by simp [c1]), if_pos (by rw [hany]; simp [h])]) (by decide)
      simp [t96, this, hF1.trans (hF6.mono hF1.n)]
    · rw [hany]
      have : decide ((c.parts.length : Int) ≤ (ofM c.tabs[i]).1[j].p) = false := by simp; omega
      rw [this, Bool.false_or]
  have : j = (ofM c.tabs[i]).1.length := by omega
  subst this
  rw [List.drop_length, List.any_nil] at hany
  simp [t112, t96, rb _ hF5]
  refine (holds_ok vp vc vt c _ _ _ (h0.fr hfα5) (ho.sl.fr hf5) (by omega) (by omega) (fun x hx => (ob1 x hx).2) (by omega)).mono fun r γ hr => ?_
  obtain ⟨rfl, hg2⟩ := hr
  have hF7 := hF5.trans (hg2.mono hF5.n)
  have hE : tbE c i c.tabs[i] = holdsM c (ofM c.tabs[i]).1 := by rw [tbE, if_neg (by simp [c1]), if_neg (by simp [hany])]
  by_cases c2 : holdsM c (ofM c.tabs[i]).1 = 0
  · simp [c2, t96, e1]
    refine agn_mk (c.tabs.length - (i + 1)) (by omega) (hJ _ _ _ ⟨i + 1, rfl, by omega, by simp, ?_, hF7⟩)
    rw [hfirst3, if_neg (by rw [hE, c2]; simp)]
  · have := told _ hE c2
    simp [c2, t96, this, hF1.trans (hF7.mono hF1.n)]

noncomputable def cfgE (c : Cf) : Int := (whereM c).1
set_option maxRecDepth 100000 in
theorem rRight_ok (vp vc vt : Value) (c : Cf) (α : AH) (h : IsCfg α (.agg #[vp, vc, vt]) c) (hn : ∀ p ∈ c.parts, p.name.size ≤ 1000000000000) (ht : ∀ t ∈ c.tabs, t.length ≤ 1000000) :
    NCalls Try.prog 58 [.agg #[vp, vc, vt]] α (fun r α' => r = .int .i64 (cfgE c) ∧ Fr α.n α α') := by
  have h0 := h
  obtain ⟨_, _, _, he, h1, h2, h3⟩ := h
  cases he
  refine ncg mixd Try.func58 rfl Try.results58 (by kernel_rfl) ?_
  simp [h1.isCell, h2.isCell, h3.isCell]
  refine (where_ok vp vc vt c _ (h0.fr (Fr.alloc0 _ _)) hn ht).mono fun r β hr => ?_
  obtain ⟨rfl, hf⟩ := hr
  simp [cfgE]
  exact (Fr.alloc0 _ _).up hf
end Go.Proofs.Ytggkeldedennfaa

set_option linter.unusedVariables false
set_option linter.unusedSimpArgs false
namespace Go.Proofs.Ytggkeldedennfaa
open Go.ChangeShapes Go.WideShapes Go.ChangeAt Go.RowKit Go.Lay

theorem Rk.own : ownKnob Try.prog.godebug = none := by kernel_rfl
theorem Rk.laidOut : laidOutB Try.prog = true := by kernel_rfl
set_option maxRecDepth 100000 in
/-- A slice of ints is no longer than its weight allows. -/
theorem sized_ints {H : Type} {enc : TypeId × Value → H} {W : World} {a : Option Addr} {len cap : Nat} {d : DataW H} {ps : List MemPlace} {ts : List TypeId} {ds : List (DataW H)} {j : Nat}
    (hsz : (DataW.weightsEach Try.prog ts ds).all (· ≤ reachBytes) = true) (ht : ts[j]? = some 28) (hd : ds[j]? = some d) (h : DataW.Trod enc Try.prog W 0 (fun _ => true) true 28 (.slice a len cap) d ps) : len ≤ 1000000000000000 := by
  obtain ⟨fuel, hf⟩ := h
  rcases open_ints Try.underlying28 Try.underlying3 (by kernel_rfl) hf with ⟨hcs, _⟩ | ⟨x, l, c, zs, hcs, _, hl, _, hz, hx, _, _⟩
  · simp [Value.cells] at hcs
    obtain ⟨rfl, rfl, rfl⟩ := hcs
    omega
  · simp [Value.cells] at hcs
    obtain ⟨rfl, rfl, rfl⟩ := hcs
    obtain ⟨hx, _⟩ := Prod.mk.inj hx
    subst hx
    have z := sized_slice hsz ht hd Try.underlying28
    have hB : Try.prog.bytesOf 3 = 8 := by kernel_rfl
    have hr : reachBytes = 140737488351232 := rfl
    rw [hB] at z
    simp [lits] at z
    simp at hz
    omega
set_option maxRecDepth 100000 in
theorem one_ints {H : Type} {enc : TypeId × Value → H} {W : World} {base : Nat} {a : Option Addr} {len cap : Nat} {d : DataW H} {ps : List MemPlace} (hok : Value.okWide Try.prog W .any base 28 (.slice a len cap))
    (h : DataW.Trod enc Try.prog W 0 (fun _ => true) true 28 (.slice a len cap) d ps) : ∃ (m : AM) (α : AH) (va : Value) (L : List Int), Rel Try.prog W m α W ∧ VR m va (.slice a len cap) ∧ Ints α va L ∧ L.length = len := by
  obtain ⟨fuel, hf⟩ := h
  have rel0 : Rel Try.prog W ⟨0, fun _ => 0, fun _ => 0, fun _ => 0, fun _ => 0⟩ ⟨0, fun _ => none⟩ W :=
    ⟨rfl, Below.refl _ _, (fun _ _ h => nomatch h), (fun _ _ h => nomatch h), (fun _ _ h => nomatch h), (fun _ _ h => nomatch h), (fun _ _ h => nomatch h), (fun _ _ h => nomatch h), (fun _ _ _ _ h => nomatch h)⟩
  rcases open_ints Try.underlying28 Try.underlying3 (by kernel_rfl) hf with ⟨hcs, _⟩ | ⟨x, l, c, zs, hcs, _, hl, _, hz, hx, hcell, _⟩
  · simp [Value.cells] at hcs
    obtain ⟨rfl, rfl, rfl⟩ := hcs
    exact ⟨_, _, .slice none 0 0, [], rel0, .fl rfl, .inl ⟨rfl, rfl⟩, rfl⟩
  · simp [Value.cells] at hcs
    obtain ⟨rfl, rfl, rfl⟩ := hcs
    simp only [Value.okWide, Try.underlying28, Cell.okWide, Cell.ok] at hok
    obtain ⟨hlc, _, _, hspot, row, cells, hsh, _⟩ := hok
    obtain ⟨blk, off, spot⟩ := x
    simp only at hspot
    subst hspot
    have hlt : blk < W.heap.size := by
      rcases Nat.lt_or_ge blk W.heap.size with h | h
      · exact h
      · simp [World.shape?, Array.getElem?_eq_none h] at hsh
    simp at hz
    have hll : (zs.take len).length = len := by simp; omega
    refine ⟨⟨1, fun _ => blk, fun _ => off, fun _ => off + cap, fun _ => 1⟩, ⟨1, fun i => if i = 0 then some ⟨(zs.take len).map (.int .i64), 3, false⟩ else none⟩, .slice (some ⟨0, 0, none⟩) len 0, zs.take len, ?_, ?_, ?_, hll⟩
    · refine ⟨rfl, Below.refl _ _, fun id b hb => ?_, fun id b hb => ?_, fun id b hb i x hx => ?_, fun id b hb => ?_, fun id b hb _ => hlt, fun id b hb ho => ?_, fun id id' b b' hb _ ho => ?_⟩ <;> (simp only at hb; split at hb <;> cases hb)
      · rename_i h; subst h; exact Nat.one_pos
      · intro x hx; simp only [List.mem_map] at hx; obtain ⟨n, _, rfl⟩ := hx; rfl
      · simp only [List.getElem?_map, Option.map_eq_some_iff] at hx
        obtain ⟨n, hn, rfl⟩ := hx
        obtain ⟨hi, hn⟩ := List.getElem?_eq_some_iff.1 hn
        have hi' : i < zs.length := by simp at hi; omega
        have := hcell i hi'
        refine ⟨.int .i64 n, ?_, .fl rfl⟩
        have e : (Addr.add ⟨blk, off, none⟩ i) = ⟨blk, off + i, none⟩ := by unfold Addr.add; split <;> simp_all
        rw [e] at this
        rw [this]
        simp at hn
        rw [← hn]
        simp [List.getD, hi']
      · exact (show Try.prog.cellsOf 3 = 1 by kernel_rfl).symm
      · cases ho
      · cases ho
    · exact .sl Nat.one_pos (fun _ => rfl) hlc (by simp)
    · refine .inr ⟨0, 0, 0, _, by rw [hll], Nat.one_pos, rfl, rfl, by simp [intK], fun i hi => ?_⟩
      simp only [intK, Nat.zero_add, Nat.mul_one]
      exact win1 (by simp only [List.getElem?_map, List.getElem?_eq_getElem hi]; rfl)
theorem rel0 (P : Program) (W : World) : Rel P W ⟨0, fun _ => 0, fun _ => 0, fun _ => 0, fun _ => 0⟩ ⟨0, fun _ => none⟩ W :=
  ⟨rfl, Below.refl _ _, (fun _ _ h => nomatch h), (fun _ _ h => nomatch h), (fun _ _ h => nomatch h), (fun _ _ h => nomatch h), (fun _ _ h => nomatch h), (fun _ _ h => nomatch h), (fun _ _ _ _ h => nomatch h)⟩
theorem calls1 {f : FuncId} {args args' : List Value} {α : AH} {m : AM} {W : World} (hR : Rel Try.prog W m α W) (hv : VRL m args args') (h : NCalls Try.prog f args α (fun r α' => r = .bool true ∧ Fr α.n α α')) :
    Calls Try.prog f args'.toArray W fun e W' => e = .returned (.bool true) ∧ Below W.heap.size W W' := by
  refine (h.2 W m W args' hR hv).mono fun e W' hr => ?_
  obtain ⟨v', rfl, m', v, α', _, hR, hv, rfl, _⟩ := hr
  exact ⟨by rw [VR.eq_flat hv rfl], hR.below⟩
end Go.Proofs.Ytggkeldedennfaa

set_option linter.unusedVariables false
set_option linter.unusedSimpArgs false
namespace Go.Proofs.Ytggkeldedennfaa
open Go Go.RowKit Go.Lay Go.Nod

def frmM (parts : Int) (xs : List Nd) : Prop := (1 ≤ xs.length ∧ xs.length ≤ 625 ∧ (ofM xs).2 = 0 ∧ (ofM xs).1.length ≤ 24 ∧ totM (ofM xs).1 ≤ 90) ∨ ∃ p, 0 ≤ p ∧ (1 ≤ parts → p < parts) ∧ xs = [⟨3, 0, 2⟩, ⟨1, p, 3⟩, ⟨2, 0, 2⟩]
theorem frmM.len {p : Int} {xs : List Nd} (h : frmM p xs) : 1 ≤ xs.length ∧ xs.length ≤ 625 := by
  rcases h with ⟨a, b, _⟩ | ⟨q, _, _, rfl⟩
  · exact ⟨a, b⟩
  · simp
set_option maxRecDepth 100000 in
theorem frame_ok (L : List Int) (id : Nat) (parts at_ : Int) (α : AH) (hT : IsTape α id L at_) :
    NCalls Try.prog 34 [.pointer (some ⟨id, 0, none⟩), .int .i64 parts] α (fun v α' => ∃ xs, OwN α.n α' v xs ∧ frmM parts xs ∧ TapeOn α id L α') := by
  refine ncw mixd Try.func34 rfl Try.results34 (by kernel_rfl) ?_
  simp
  refine (table_ok L id parts 4 (by omega) at_ α hT).mono fun v β hr => ?_
  obtain ⟨xs, at1, hx, h1, h2, hX, hT1⟩ := hr
  simp
  refine (of_ok xs β v hx.sl (by omega)).mono fun r γ hr => ?_
  obtain ⟨u, rfl, hu, hg⟩ := hr
  obtain ⟨ua, uc, rfl⟩ := hu.sl.isSl
  have hT2 := hT1.fr hg
  have hX2 := hX.fr hg hX.n
  have hx' := hx.fr hg
  have hlit : ∀ (p : Int) (γ : AH), 0 ≤ p → (1 ≤ parts → p < parts) → TapeOn α id L γ → ∃ xs, OwN α.n (γ.alloc ⟨[.int .i64 3, .int .i64 0, .int .i64 2, .int .i64 1, .int .i64 p, .int .i64 3, .int .i64 2, .int .i64 0, .int .i64 2], 55, true⟩) (.slice (some ⟨γ.n, 0, none⟩) 3 0) xs ∧ frmM parts xs ∧
      TapeOn α id L (γ.alloc ⟨[.int .i64 3, .int .i64 0, .int .i64 2, .int .i64 1, .int .i64 p, .int .i64 3, .int .i64 2, .int .i64 0, .int .i64 2], 55, true⟩) := fun p γ p0 p1 hon => by
    refine ⟨[⟨3, 0, 2⟩, ⟨1, p, 3⟩, ⟨2, 0, 2⟩], ?_, .inr ⟨p, p0, p1, rfl⟩, hon.fr (Fr.alloc0 _ _)⟩
    exact lit_own [⟨3, 0, 2⟩, ⟨1, p, 3⟩, ⟨2, 0, 2⟩] hon.1.n 0
  by_cases c0 : (ofM xs).2 = 0 ∧ (ofM xs).1.length ≤ 24 ∧ totM (ofM xs).1 ≤ 90
  · obtain ⟨c1, c2, c3⟩ := c0
    have c2' : ((ofM xs).1.length : Int) ≤ 24 := by omega
    have c2'' : ¬ (24 : Int) < (ofM xs).1.length := by omega
    have c3' : ¬ (90 : Int) < totM (ofM xs).1 := by omega
    simp [c1, c2', c2'']
    refine (total_ok _ _ _ hu.sl (fun x hx => ((of_bd xs).1 x hx).2) (by have := (of_bd xs).2; omega)).mono fun r δ hr => ?_
    obtain ⟨rfl, hd⟩ := hr
    simp [c3, c3']
    exact ⟨xs, hx'.fr hd, .inl ⟨h1, by omega, c1, c2, c3⟩, hX2.fr hd hX2.n, at1, hT2.fr hd⟩
  have tail : ∀ γ', Fr γ.n γ γ' → NCalls Try.prog 33 [.pointer (some ⟨id, 0, none⟩), .int .i64 parts] γ' (fun v δ => ∃ p, v = .int .i64 p ∧ 0 ≤ p ∧ (1 ≤ parts → p < parts) ∧ TapeOn α id L δ) := fun γ' hf => by
    refine (next_ok L at1 parts id _ (hT2.fr hf)).mono fun r δ hr => ?_
    obtain ⟨p, rfl, a, b, hon⟩ := hr
    exact ⟨p, rfl, a, b, ⟨(hX2.fr hf hX2.n).trans hon.1, hon.2⟩⟩
  by_cases c1 : (ofM xs).2 = 0
  case neg =>
    simp [c1]
    refine (tail _ (.refl _ _)).mono fun r δ hr => ?_
    obtain ⟨p, rfl, p0, p1, hon⟩ := hr
    simp
    exact hlit p δ p0 p1 hon
  by_cases c2 : 24 < (ofM xs).1.length
  · have c2' : (24 : Int) < (ofM xs).1.length := by omega
    have c2'' : ¬ ((ofM xs).1.length : Int) ≤ 24 := by omega
    simp [c1, c2', c2'']
    refine (tail _ (.refl _ _)).mono fun r δ hr => ?_
    obtain ⟨p, rfl, p0, p1, hon⟩ := hr
    simp
    exact hlit p δ p0 p1 hon
  have c2' : ((ofM xs).1.length : Int) ≤ 24 := by omega
  have c2'' : ¬ (24 : Int) < (ofM xs).1.length := by omega
  have c3 : (90 : Int) < totM (ofM xs).1 := by omega
  have c3' : ¬ totM (ofM xs).1 ≤ 90 := by omega
  simp [c1, c2', c2'']
  refine (total_ok _ _ _ hu.sl (fun x hx => ((of_bd xs).1 x hx).2) (by have := (of_bd xs).2; omega)).mono fun r δ hr => ?_
  obtain ⟨rfl, hd⟩ := hr
  simp [c3, c3']
  refine (tail _ hd).mono fun r δ hr => ?_
  obtain ⟨p, rfl, p0, p1, hon⟩ := hr
  simp
  exact hlit p δ p0 p1 hon
end Go.Proofs.Ytggkeldedennfaa

set_option linter.unusedVariables false
set_option linter.unusedSimpArgs false
namespace Go.Proofs.Ytggkeldedennfaa
open Go Go.RowKit Go.Lay Go.Nod

theorem prtK_apart {e : TypeId} (h : (70 : TypeId) ≠ e) : prtK.apart e := fun α id b o x c hb hbe ⟨vp, h0, h1, h2, h3, h4, hc, hh, hp⟩ => ⟨vp, h0, h1, h2, h3, h4, hc, hh, hp.set hb hbe h (flatK_apart _ _ _ _ _) o⟩
theorem IsTape.set {α : AH} {id : Nat} {L : List Int} {at_ : Int} (h : IsTape α id L at_) {i : Nat} {b : ABlk} {e : TypeId} (hb : α.get i = some b) (hbe : b.elem = e) (h2 : (3 : TypeId) ≠ e) (hi : i ≠ id) (o : Option ABlk) : IsTape (α.set i o) id L at_ := by
  obtain ⟨a1, a2, a3, a4, vL, a5, a6⟩ := h
  exact ⟨a1, a2, a3, a4, vL, by rw [AH.set_get_ne _ _ (Ne.symm hi)]; exact a5, a6.set hb hbe h2 (intK_apart _ _) o⟩
theorem ow_set {τ : Type} {N : Nat} {e e' : TypeId} {K : Kd τ} {α : AH} {v : Value} {xs : List τ} (h : Ow N e K α v xs) {id : Nat} {b : ABlk} (hb : α.get id = some b) (hbe : b.elem = e') (hne : e ≠ e') (hk : K.apart e') (o : Option ABlk) : Ow N e K (α.set id o) v xs := by
  rcases h with h | ⟨i, c, b', h1, h2, h3, h4, h5, h6, h7, h8⟩
  · exact .inl h
  · have hi : i ≠ id := fun hi => by subst hi; rw [hb] at h4; injection h4 with h4; subst h4; exact hne (h5.symm.trans hbe)
    exact .inr ⟨i, c, b', h1, h2, h3, by rw [AH.set_get_ne _ _ hi]; exact h4, h5, h6, h7, fun j hj => hk _ _ _ _ _ _ hb hbe (h8 j hj)⟩
/-- what a tape's step leaves -/
theorem IsTape.sl {τ : Type} {α β : AH} {id : Nat} {L : List Int} {at_ : Int} (h : IsTape α id L at_) (hf : FrX id α β) {e : TypeId} {K : Kd τ} {v : Value} {xs : List τ} (hs : Sl e K α v xs) (hne : e ≠ 31) (hk : ∀ x c, K.R α x c → K.R β x c) : Sl e K β v xs :=
  let ⟨_, _, _, _, _, a5, _⟩ := h
  Sl.frx hs hf a5 rfl hne hk
theorem IsTape.prt {α β : AH} {id : Nat} {L : List Int} {at_ : Int} (h : IsTape α id L at_) (hf : FrX id α β) : ∀ x c, prtK.R α x c → prtK.R β x c :=
  fun x c ⟨vp, h0, h1, h2, h3, h4, hc, hh, hp⟩ => ⟨vp, h0, h1, h2, h3, h4, hc, hh, h.sl hf hp (by decide) flat_mono⟩
structure Ask (N id : Nat) (L : List Int) (bx rx : Nat) (vp vc vt lv : Value) (ls : List (List Rn)) (α0 α : AH) (c : Cf) : Prop where
  n : α0.n ≤ α.n
  hN : N ≤ α0.n
  hid : id < N
  fr : ∀ i, i < N → i ≠ id → α.get i = α0.get i
  tp : ∃ at_, IsTape α id L at_
  par : Ow N 68 prtK α vp c.parts
  cha : Ow N 36 chanK α vc c.chans
  tab : Tabs α vt c.tabs
  rl : Sl 84 (sliceK 102 runK) α lv ls
  bx : N ≤ bx ∧ bx < α.n ∧ α.get bx = some ⟨[vp, vc, vt], 26, true⟩
  rx : N ≤ rx ∧ rx < α.n ∧ α.get rx = some ⟨[.slice none 0 0, .slice none 0 0, .slice none 0 0], 26, true⟩
section
variable {N id : Nat} {L : List Int} {bx rx : Nat} {vp vc vt lv : Value} {ls : List (List Rn)} {α0 α β : AH} {c : Cf}
theorem Ask.up (h : Ask N id L bx rx vp vc vt lv ls α0 α c) (hf : Fr α.n α β) : Ask N id L bx rx vp vc vt lv ls α0 β c := by
  obtain ⟨h1, h2, h3, h4, ⟨a, h5⟩, h6, h7, h8, h9, ⟨b1, b2, b3⟩, ⟨r1, r2, r3⟩⟩ := h
  exact ⟨Nat.le_trans h1 hf.n, h2, h3, fun i hi hne => by rw [hf.get i (by omega)]; exact h4 i hi hne, ⟨a, h5.fr hf⟩, h6.fr hf, h7.fr hf, h8.fr hf, h9.fr hf, ⟨b1, Nat.lt_of_lt_of_le b2 hf.n, by rw [hf.get _ b2]; exact b3⟩, ⟨r1, Nat.lt_of_lt_of_le r2 hf.n, by rw [hf.get _ r2]; exact r3⟩⟩
theorem Ask.on (h : Ask N id L bx rx vp vc vt lv ls α0 α c) (hf : TapeOn α id L β) : Ask N id L bx rx vp vc vt lv ls α0 β c := by
  obtain ⟨h1, h2, h3, h4, ⟨a, h5⟩, h6, h7, h8, h9, ⟨b1, b2, b3⟩, ⟨r1, r2, r3⟩⟩ := h
  obtain ⟨hX, hT⟩ := hf
  refine ⟨Nat.le_trans h1 hX.n, h2, h3, fun i hi hne => by rw [hX.get i (by omega) hne]; exact h4 i hi hne, hT, Ow.frx h6 hX h3 (h5.prt hX), Ow.frx h7 hX h3 flat_mono, ?_, ?_, ⟨b1, Nat.lt_of_lt_of_le b2 hX.n, by rw [hX.get _ b2 (by omega)]; exact b3⟩, ⟨r1, Nat.lt_of_lt_of_le r2 hX.n, by rw [hX.get _ r2 (by omega)]; exact r3⟩⟩
  · exact h5.sl hX h8 (by decide) fun x c ⟨v, hv, hs⟩ => ⟨v, hv, h5.sl hX hs (by decide) flat_mono⟩
  · exact h5.sl hX h9 (by decide) fun x c ⟨v, hv, hs⟩ => ⟨v, hv, h5.sl hX hs (by decide) flat_mono⟩
/-- a channel's Late, written -/
theorem Ask.late (h : Ask N id L bx rx vp vc vt lv ls α0 α c) {i : Nat} (hi : i < c.chans.length) : ∃ o cc cs, vc = .slice (some ⟨o, 0, none⟩) c.chans.length cc ∧ α.get o = some ⟨cs, 36, true⟩ ∧ i * 6 + 6 ≤ cs.length ∧
    cs[i * 6]? = some (.int .i64 c.chans[i].f) ∧ cs[i * 6 + 1]? = some (.int .i64 c.chans[i].t) ∧
    ∀ w, Ask N id L bx rx vp vc vt lv ls α0 (α.set o (some ⟨cs.set (i * 6 + 5) (.int .i64 w), 36, true⟩)) { c with chans := c.chans.set i { c.chans[i] with late := w } } := by
  obtain ⟨h1, h2, h3, h4, ⟨a, h5⟩, h6, h7, h8, h9, ⟨b1, b2, b3⟩, ⟨r1, r2, r3⟩⟩ := h
  obtain ⟨o, cc, cs, rfl, o2, o3, o4, o5, o6⟩ := h7.mem (by omega)
  have hm : (i + 1) * 6 ≤ c.chans.length * 6 := Nat.mul_le_mul_right _ hi
  have o5 : c.chans.length * 6 ≤ cs.length := o5
  have o7 : (cs.drop (i * 6)).take 6 = c.chans[i].enc := o6 i hi
  have ne : ∀ {j : Nat} {b : ABlk}, α.get j = some b → b.elem ≠ 36 → j ≠ o := fun hj hb he => by subst he; rw [o4] at hj; cases hj; exact hb rfl
  refine ⟨o, cc, cs, rfl, o4, by omega, take_get (o := i * 6) (j := 0) o7 (by simp [Cn.enc]), take_get (o := i * 6) (j := 1) o7 (by simp [Cn.enc]), fun w => ?_⟩
  refine ⟨h1, h2, h3, fun j hj hne => by rw [AH.set_get_ne _ _ (by omega)]; exact h4 j hj hne, ⟨a, h5.set (e := 36) o4 rfl (by decide) (by omega) _⟩, ow_set h6 (e' := 36) o4 rfl (by decide) (prtK_apart (by decide)) _, ?_, h8.set (e' := 36) o4 rfl (by decide) (sliceK_apart (by decide) (flatK_apart _ _ _ _ _)) _, h9.set (e' := 36) o4 rfl (by decide) (sliceK_apart (by decide) (flatK_apart _ _ _ _ _)) _,
    ⟨b1, b2, by rw [AH.set_get_ne _ _ (ne b3 (show (26 : TypeId) ≠ 36 by decide))]; exact b3⟩, ⟨r1, r2, by rw [AH.set_get_ne _ _ (ne r3 (show (26 : TypeId) ≠ 36 by decide))]; exact r3⟩⟩
  refine Ow.put1 (K := chanK) (flatK_apart _ _ _ _ _) o2 o3 o4 o5 o6 i 5 (by decide) _ { c.chans[i] with late := w } ?_ _ rfl
  show (((cs.drop (i * 6)).take 6).set 5 _) = _
  rw [o7]; rfl
/-- a partition's Budget and Period, written -/
theorem Ask.bud (h : Ask N id L bx rx vp vc vt lv ls α0 α c) {i : Nat} (hi : i < c.parts.length) : ∃ o cc cs, vp = .slice (some ⟨o, 0, none⟩) c.parts.length cc ∧ α.get o = some ⟨cs, 68, true⟩ ∧ i * 11 + 11 ≤ cs.length ∧
    ∀ b p, Ask N id L bx rx vp vc vt lv ls α0 (α.set o (some ⟨(cs.set (i * 11 + 1) (.int .i64 b)).set (i * 11 + 2) (.int .i64 p), 68, true⟩)) { c with parts := c.parts.set i { c.parts[i] with bud := b, per := p } } := by
  obtain ⟨h1, h2, h3, h4, ⟨a, h5⟩, h6, h7, h8, h9, ⟨b1, b2, b3⟩, ⟨r1, r2, r3⟩⟩ := h
  obtain ⟨o, cc, cs, rfl, o2, o3, o4, o5, o6⟩ := h6.mem (by omega)
  have hm : (i + 1) * 11 ≤ c.parts.length * 11 := Nat.mul_le_mul_right _ hi
  have o5' : c.parts.length * 11 ≤ cs.length := o5
  have ne : ∀ {j : Nat} {b : ABlk}, α.get j = some b → b.elem ≠ 68 → j ≠ o := fun hj hb he => by subst he; rw [o4] at hj; cases hj; exact hb rfl
  refine ⟨o, cc, cs, rfl, o4, by omega, fun b p => ?_⟩
  refine ⟨h1, h2, h3, fun j hj hne => by rw [AH.set_get_ne _ _ (by omega)]; exact h4 j hj hne, ⟨a, h5.set (e := 68) o4 rfl (by decide) (by omega) _⟩, ?_, ow_set h7 (e' := 68) o4 rfl (by decide) (flatK_apart _ _ _ _ _) _, h8.set (e' := 68) o4 rfl (by decide) (sliceK_apart (by decide) (flatK_apart _ _ _ _ _)) _, h9.set (e' := 68) o4 rfl (by decide) (sliceK_apart (by decide) (flatK_apart _ _ _ _ _)) _,
    ⟨b1, b2, by rw [AH.set_get_ne _ _ (ne b3 (show (26 : TypeId) ≠ 68 by decide))]; exact b3⟩, ⟨r1, r2, by rw [AH.set_get_ne _ _ (ne r3 (show (26 : TypeId) ≠ 68 by decide))]; exact r3⟩⟩
  have hk : prtK.apart 68 := prtK_apart (by decide)
  have := Ow.mk (N := N) (K := prtK) (xs := c.parts.set i { c.parts[i] with bud := b, per := p }) (c := cc) (α := α.set o (some ⟨(cs.set (i * 11 + 1) (.int .i64 b)).set (i * 11 + 2) (.int .i64 p), 68, true⟩)) o2 o3 (AH.set_get _ _ _) (by simpa using o5) fun j hj => by
    refine hk α o _ _ _ _ o4 rfl ?_
    show prtR _ _ ((((cs.set (i * 11 + 1) (.int .i64 b)).set (i * 11 + 2) (.int .i64 p)).drop (j * 11)).take 11)
    rw [set_window (by decide), set_window (by decide)]
    by_cases hij : i = j
    · subst hij
      obtain ⟨vp, h0, h1, h2, h3, h4, hc, hh, hp⟩ := o6 i hi
      have hc : (cs.drop (i * 11)).take 11 = _ := hc
      refine ⟨vp, h0, h1, h2, h3, h4, ?_, by simpa using hh, by simpa using hp⟩
      simp [hc]
    · rw [if_neg hij, if_neg hij, List.getElem_set_ne hij]
      exact o6 j (by simpa using hj)
  simpa using this
end
end Go.Proofs.Ytggkeldedennfaa

set_option linter.unusedVariables false
set_option linter.unusedSimpArgs false
namespace Go.Lay
open Go Go.RowKit
/-- A block's ways out meet: what holds there. -/
theorem wcutb {P : Program} {m : Bool} {c : Code} {K : AS → AH → Prop} {Q : Exit → AS → AH → Prop} {s : AS} {α : AH} {n : Nat} (V : List Nat) (lo hi : Nat) (hc : fitC (ovA V lo hi) c = true) (J : AS → AH → Prop) (h : wk m (nx P) c (nblock n (nthen J Q)) s α)
    (k : ∀ t α', J t α' → K (over V lo hi t s) α') : wk m P c (nblock n (nthen K Q)) s α := by
  refine wk.fr (A := ovA V lo hi) (s0 := s) c _ _ s α (fun e t α' hf h => ?_) hc (fun _ _ => rfl) h
  have go : J t α' → K t α' := fun hj => by
    have e := over_eq hf
    have := k t α' hj
    rw [e] at this
    exact this
  cases e with
  | normal => exact go h
  | exit i =>
    unfold nblock at h ⊢
    simp only at h ⊢
    split
    · rename_i hi; rw [if_pos hi] at h; exact go h
    · rename_i hi; rw [if_neg hi] at h; exact h
  | _ => exact h
end Go.Lay
namespace Go.Proofs.Ytggkeldedennfaa
open Go Go.RowKit Go.Lay Go.Nod

noncomputable def runsM (c : Cf) : List (List Rn) := c.tabs.map fun t => (ofM t).1
def bare (p : Pt) : Pt := { p with bud := 0, per := 0 }
def bareC (x : Cn) : Cn := { x with late := 0 }
def lateOk (ls : List (List Rn)) (x : Cn) : Prop := x.late = 0 ∨ ∃ w k, 0 < w ∧ 0 ≤ k ∧ k ≤ 5 ∧ x.late = min (w + k) 4096 ∧ ∀ l ∈ ls, 0 ≤ lateM l x.f x.t ∧ lateM l x.f x.t ≤ w
structure Asked0 (c c' : Cf) : Prop where
  tabs : c'.tabs = c.tabs
  parts : c'.parts.map bare = c.parts.map bare
  chans : c'.chans.map bareC = c.chans.map bareC
  late : ∀ x ∈ c'.chans, lateOk (runsM c) x
theorem Asked0.pl {c c' : Cf} (h : Asked0 c c') : c'.parts.length = c.parts.length := by have := congrArg List.length h.parts; simpa using this
theorem Asked0.cl {c c' : Cf} (h : Asked0 c c') : c'.chans.length = c.chans.length := by have := congrArg List.length h.chans; simpa using this
theorem map_set_same {τ σ : Type} (f : τ → σ) (l : List τ) {i : Nat} (hi : i < l.length) {y : τ} (h : f y = f l[i]) : (l.set i y).map f = l.map f := by
  rw [List.map_set, h]
  apply List.ext_getElem?
  intro j
  rw [List.getElem?_set]
  split
  · rename_i hj; subst hj; simp [hi]
  · rfl
theorem Asked0.late' {c c' : Cf} (h : Asked0 c c') {i : Nat} (hi : i < c'.chans.length) {w : Int} (hw : lateOk (runsM c) { c'.chans[i] with late := w }) : Asked0 c { c' with chans := c'.chans.set i { c'.chans[i] with late := w } } :=
  ⟨h.tabs, h.parts, by rw [← h.chans]; exact map_set_same _ _ hi rfl, fun x hx => by
    rcases List.mem_or_eq_of_mem_set hx with hx | rfl
    · exact h.late x hx
    · exact hw⟩
theorem Asked0.bud' {c c' : Cf} (h : Asked0 c c') {i : Nat} (hi : i < c'.parts.length) {b p : Int} : Asked0 c { c' with parts := c'.parts.set i { c'.parts[i] with bud := b, per := p } } :=
  ⟨h.tabs, by rw [← h.parts]; exact map_set_same _ _ hi rfl, h.chans, h.late⟩

theorem totM_bd (xs : List Rn) : 0 ≤ totM xs ∧ totM xs ≤ big := by
  have key : ∀ (xs : List Rn) (n : Int), 0 ≤ n → n ≤ big → 0 ≤ xs.foldl (fun n r => sumM n r.n) n ∧ xs.foldl (fun n r => sumM n r.n) n ≤ big := by
    intro xs
    induction xs with
    | nil => exact fun n h1 h2 => ⟨h1, h2⟩
    | cons x xs ih => exact fun n h1 h2 => ih _ (sumM_bd _ _ h2).1 (sumM_bd _ _ h2).2
  exact key xs 0 (by decide) (by decide)
theorem budM_bd (l : List Rn) (a per : Int) : -1 ≤ budM l a per := by
  have key : ∀ (js : List Nat) (m : Int), 0 ≤ m → 0 ≤ js.foldl (budS (wordsM l) a per.toNat) m := by
    intro js
    induction js with
    | nil => exact fun m h => h
    | cons j js ih => exact fun m h => ih _ (by unfold budS; omega)
  unfold budM budW
  split
  · omega
  · have := key (List.range ((wordsM l).length / per.toNat)) (per + 1) (by omega)
    omega
theorem runs_rd {α : AH} {v : Value} {ls : List (List Rn)} (h : Sl 84 (sliceK 102 runK) α v ls) : ∃ id off, alen Try.prog #[88] v = some (.int .i64 (ls.length : Int)) ∧
      (∀ (k : IntKind) (i : Nat), i < ls.length → aindexAddr Try.prog 88 v (.int k (i : Int)) = some (.pointer (some ⟨id, off + i, none⟩))) ∧
      ∀ β, Fr α.n α β → ∃ b, (0 < ls.length → β.get id = some b) ∧ ∀ (i : Nat) (hi : i < ls.length), off + i + 1 ≤ b.cells.length ∧ ∃ w, b.cells[off + i]? = some w ∧ isCell w = true ∧ Runs β w ls[i] := by
  obtain ⟨id, off, a1, a2, a3⟩ := h.rd1 (t := 88) Try.underlying88 sz84
  refine ⟨id, off, a1, fun k i hi => by have := a2 k i hi; change _ = some (Value.pointer (some ⟨id, off + i * 1, none⟩)) at this; simpa using this, fun β hf => ?_⟩
  obtain ⟨b, b1, b2⟩ := a3 β hf
  refine ⟨b, b1, fun i hi => ?_⟩
  obtain ⟨b2, w, b3, b4⟩ := b2 i hi
  have b3 : (b.cells.drop (off + i * 1)).take 1 = [w] := b3
  exact ⟨by change off + i * 1 + 1 ≤ _ at b2; omega, w, by simpa using take_get (o := off + i * 1) (j := 0) b3 (by simp), b4.isCell, b4⟩
theorem tabs_rd {α : AH} {v : Value} {ls : List (List Nd)} (h : Tabs α v ls) : ∃ id off, alen Try.prog #[24] v = some (.int .i64 (ls.length : Int)) ∧
      (∀ (k : IntKind) (i : Nat), i < ls.length → aindexAddr Try.prog 24 v (.int k (i : Int)) = some (.pointer (some ⟨id, off + i, none⟩))) ∧
      ∀ β, Fr α.n α β → ∃ b, (0 < ls.length → β.get id = some b) ∧ ∀ (i : Nat) (hi : i < ls.length), off + i + 1 ≤ b.cells.length ∧ ∃ w, b.cells[off + i]? = some w ∧ isCell w = true ∧ Nodes β w ls[i] := by
  obtain ⟨id, off, a1, a2, a3⟩ := h.rd1 (t := 24) Try.underlying24 sz49
  refine ⟨id, off, a1, fun k i hi => by have := a2 k i hi; change _ = some (Value.pointer (some ⟨id, off + i * 1, none⟩)) at this; simpa using this, fun β hf => ?_⟩
  obtain ⟨b, b1, b2⟩ := a3 β hf
  refine ⟨b, b1, fun i hi => ?_⟩
  obtain ⟨b2, w, b3, b4⟩ := b2 i hi
  have b3 : (b.cells.drop (off + i * 1)).take 1 = [w] := b3
  exact ⟨by change off + i * 1 + 1 ≤ _ at b2; omega, w, by simpa using take_get (o := off + i * 1) (j := 0) b3 (by simp), b4.isCell, b4⟩
theorem Ask.mk0 {α α1 : AH} {L : List Int} {id N : Nat} {at_ : Int} {vp vc vt lv : Value} {c : Cf} {ls : List (List Rn)} {bx rx : Nat} (hT : IsTape α id L at_) (hid : id < N) (hN : N ≤ α.n) (hp : Ow N 68 prtK α vp c.parts) (hc : Ow N 36 chanK α vc c.chans) (ht : Tabs α vt c.tabs)
    (hF : Fr α.n α α1) (hl : Sl 84 (sliceK 102 runK) α1 lv ls) (b1 : N ≤ bx ∧ bx < α1.n ∧ α1.get bx = some ⟨[vp, vc, vt], 26, true⟩) (b2 : N ≤ rx ∧ rx < α1.n ∧ α1.get rx = some ⟨[.slice none 0 0, .slice none 0 0, .slice none 0 0], 26, true⟩) :
    Ask N id L bx rx vp vc vt lv ls α α1 c :=
  ⟨hF.n, hN, hid, fun i hi _ => hF.get i (by omega), ⟨at_, hT.fr hF⟩, hp.fr hF, hc.fr hF, ht.fr hF, hl, b1, b2⟩
set_option maxRecDepth 100000 in
set_option maxHeartbeats 4000000 in
theorem asks_ok (L : List Int) (id N : Nat) (at_ : Int) (α : AH) (vp vc vt : Value) (c : Cf) (hT : IsTape α id L at_) (hid : id < N) (hN : N ≤ α.n) (hp : Ow N 68 prtK α vp c.parts) (hc : Ow N 36 chanK α vc c.chans) (ht : Tabs α vt c.tabs)
    (t1 : 1 ≤ c.tabs.length) (t2 : c.tabs.length ≤ 3) (t3' : ∀ t ∈ c.tabs, t.length ≤ 625) (hpl : c.parts.length ≤ 6) (hcl : c.chans.length ≤ 8) (hnm : ∀ p ∈ c.parts, p.name.size ≤ 1000000000000) (hl0 : ∀ x ∈ c.chans, x.late = 0) :
    NCalls Try.prog 35 [.pointer (some ⟨id, 0, none⟩), .agg #[vp, vc, vt]] α (fun v α' => v = .agg #[vp, vc, vt] ∧ ∃ c', Asked0 c c' ∧ (cfgE c' = 0 ∨ ∀ p ∈ c'.parts, p.bud = 0 ∧ p.per = 0) ∧
      α.n ≤ α'.n ∧ (∀ i, i < N → i ≠ id → α'.get i = α.get i) ∧ (∃ a, IsTape α' id L a) ∧ Ow N 68 prtK α' vp c'.parts ∧ Ow N 36 chanK α' vc c'.chans ∧ Tabs α' vt c'.tabs) := by
  obtain ⟨pa, pc, hvp⟩ := hp.sl.isSl
  obtain ⟨ca, cc, hvc⟩ := hc.sl.isSl
  obtain ⟨ta, tc, hvt⟩ := ht.isSl
  have cvp := hp.sl.isCell
  have cvc := hc.sl.isCell
  have cvt := ht.isCell
  refine ncw mixd Try.func35 rfl Try.results35 (by kernel_rfl) ?_
  simp [cvp, cvc, cvt]
  have hb1 : ((α.alloc ⟨[vp, vc, vt], 26, true⟩).alloc ⟨[.slice none 0 0, .slice none 0 0, .slice none 0 0], 26, true⟩).get α.n = some ⟨[vp, vc, vt], 26, true⟩ := by rw [AH.alloc_get_ne _ _ (by simp)]; exact AH.alloc_get _ _
  have hb2 : ((α.alloc ⟨[vp, vc, vt], 26, true⟩).alloc ⟨[.slice none 0 0, .slice none 0 0, .slice none 0 0], 26, true⟩).get (α.n + 1) = some ⟨[.slice none 0 0, .slice none 0 0, .slice none 0 0], 26, true⟩ := AH.alloc_get _ _
  have hn1 : ((α.alloc ⟨[vp, vc, vt], 26, true⟩).alloc ⟨[.slice none 0 0, .slice none 0 0, .slice none 0 0], 26, true⟩).n = α.n + 2 := rfl
  have hF1 : Fr α.n α ((α.alloc ⟨[vp, vc, vt], 26, true⟩).alloc ⟨[.slice none 0 0, .slice none 0 0, .slice none 0 0], 26, true⟩) := (Fr.alloc0 _ _).up (Fr.alloc0 _ _)
  generalize (α.alloc ⟨[vp, vc, vt], 26, true⟩).alloc _ = α1 at *
  obtain ⟨ti, tf, tlen, tidx, trd⟩ := tabs_rd ht
  simp [hb1, tlen]
  refine wlp [5, 7, 8, 9] 25 38 (by kernel_rfl) c.tabs.length (fun k t α' => ∃ i, k = c.tabs.length - i ∧ i ≤ c.tabs.length ∧ t 25 = .int .i64 i ∧ Ow α1.n 84 (sliceK 102 runK) α' (t 5) ((runsM c).take i) ∧ Fr α1.n α1 α')
    ⟨0, by omega, by omega, by simp, by simp; exact .nil, .refl _ _⟩ ?_
  rintro J0 hJ0 k t α2 ⟨i, rfl, hi, t25, hlv, hf⟩
  by_cases ci : i < c.tabs.length
  · obtain ⟨b, hb, bp⟩ := trd _ (hF1.up hf)
    obtain ⟨b1, w, b2, b3, b4⟩ := bp i ci
    have e1 : IntKind.i64.wrap ((i : Int) + 1) = (i : Int) + 1 := w64 (by omega)
    simp [t25, ci, tidx .i64 i ci, hb (by omega), b1, b2]
    refine (of_ok c.tabs[i] _ w b4 (by have := t3' _ (List.getElem_mem ci); omega)).mono fun r β hr => ?_
    obtain ⟨u, rfl, hu, hg⟩ := hr
    obtain ⟨ua, uc, rfl⟩ := hu.sl.isSl
    have hf3 := hf.trans (hg.mono hf.n)
    have hus := hu.sl
    have hlv' := hlv.fr hg
    have hlen : ((runsM c).take i).length = i := by simp [runsM]; omega
    obtain ⟨v', α3, p1, p2, p3, -⟩ := hlv'.push el88 hf3.n (x := (ofM c.tabs[i]).1) (c := [_]) ⟨_, rfl, hus⟩ (sliceK_apart (by decide) (flatK_apart _ _ _ _ _)) (by omega) 0
    simp [p1, t25, e1]
    refine agn_mk (c.tabs.length - (i + 1)) (by omega) (hJ0 _ _ _ ⟨i + 1, rfl, by omega, by simp, ?_, hf3.trans p3⟩)
    simp
    have : (runsM c).take (i + 1) = (runsM c).take i ++ [(ofM c.tabs[i]).1] := by rw [List.take_add_one]; simp [runsM, ci]
    rw [this]
    exact p2
  have : i = c.tabs.length := by omega
  subst this
  have hls : (runsM c).length = c.tabs.length := by simp [runsM]
  rw [List.take_of_length_le (by omega)] at hlv
  have hl := hlv.sl
  have A0 : Ask N id L α.n (α.n + 1) vp vc vt (t 5) (runsM c) α α2 c := Ask.mk0 hT hid hN hp hc ht (hF1.up hf) hl ⟨by omega, by have := hf.n; omega, by rw [hf.get _ (by omega)]; exact hb1⟩ ⟨by omega, by have := hf.n; omega, by rw [hf.get _ (by omega)]; exact hb2⟩
  have hlb : ∀ l ∈ runsM c, (∀ x ∈ l, x.n ≤ big) ∧ l.length ≤ 1000000000 := fun l hl => by
    simp only [runsM, List.mem_map] at hl
    obtain ⟨t, _, rfl⟩ := hl
    exact ⟨fun x hx => ((of_bd t).1 x hx).2, by have := (of_bd t).2; omega⟩
  have clen : alen Try.prog #[23] vc = some (.int .i64 (c.chans.length : Int)) := by rw [hvc]; simp
  have hbx2 := A0.bx.2.2
  simp [t25, hbx2, clen]
  clear hJ0 J0 trd tidx hf hF1 hb1 hb2 hn1
  generalize hlvv : t 5 = lv at *
  refine wlp [10, 11, 13, 14] 42 92 (by kernel_rfl) c.chans.length (fun k t α' => ∃ i c1, k = c.chans.length - i ∧ i ≤ c.chans.length ∧ t 42 = .int .i64 i ∧ Asked0 c c1 ∧ (∀ j (h : j < c1.chans.length), i ≤ j → c1.chans[j].late = 0) ∧ Ask N id L α.n (α.n + 1) vp vc vt lv (runsM c) α α' c1)
    ⟨0, c, by omega, by omega, by simp, ⟨rfl, rfl, rfl, fun x hx => .inl (hl0 x hx)⟩, fun j h _ => hl0 _ (List.getElem_mem h), A0⟩ ?_
  rintro J1 hJ1 k t1 α3 ⟨i, c1, rfl, hi1, t42, K1, hz, A1⟩
  have hcl1 := K1.cl
  clear A0 hlv hl
  by_cases ci1 : i < c.chans.length
  · obtain ⟨ri, rf, rlen, ridx, rrd⟩ := runs_rd A1.rl
    have e1 : IntKind.i64.wrap ((i : Int) + 1) = (i : Int) + 1 := w64 (by omega)
    simp [t42, ci1, rlen, hlvv]
    have hic : i < c1.chans.length := by omega
    refine wlp [11, 13, 14] 47 74 (by kernel_rfl) (runsM c).length (fun k t α' => ∃ j w, k = (runsM c).length - j ∧ j ≤ (runsM c).length ∧ t 47 = .int .i64 j ∧ t 11 = .int .i64 w ∧ -1 ≤ w ∧ w ≤ 8192 ∧ (0 ≤ w → ∀ l ∈ (runsM c).take j, 0 ≤ lateM l c1.chans[i].f c1.chans[i].t ∧ lateM l c1.chans[i].f c1.chans[i].t ≤ w) ∧ Fr α3.n α3 α')
      ⟨0, 0, by omega, by omega, by simp, by simp, by omega, by omega, by simp, .refl _ _⟩ ?_
    rintro J2 hJ2 k t2 α4 ⟨j, w, rfl, hj, t47, t11, hw1, hw2, hw, hf⟩
    have A2 := A1.up hf
    obtain ⟨o, ccx, cs, hvc2, o2, o3, o4, o5, o6⟩ := A2.late hic
    have cidx : aindexAddr Try.prog 23 vc (.int .i64 (i : Int)) = some (.pointer (some ⟨o, i * 6, none⟩)) := by rw [hvc2]; simp [hic, hcl1, ci1]
    have hb2 := A2.bx.2.2
    by_cases cj : j < (runsM c).length
    · obtain ⟨b, hb, bp⟩ := rrd _ hf
      obtain ⟨b1, u, b2, b3, b4⟩ := bp j cj
      have hlt1 : i * 6 + 1 + 1 ≤ cs.length := by omega
      have hlt0 : i * 6 + 1 ≤ cs.length := by omega
      have e2 : IntKind.i64.wrap ((j : Int) + 1) = (j : Int) + 1 := w64 (by omega)
      simp [t47, cj, ridx .i64 j cj, hb (by omega), b1, b2]
      refine wdraw (tks [0, 0, 0, 0, 0, 0, 0, 0, 0, 0, 0, 0, 0] (.pick (.cons 0 (.take 0 (.done)) .nil))) (by kernel_rfl) ?_
      simp [hb2, cidx, o2, o3, o4, o5, hlt0, hlt1]
      have hlbj := hlb _ (List.getElem_mem cj)
      refine (late_ok (runsM c)[j] c1.chans[i].f c1.chans[i].t _ u b4 hlbj.1 hlbj.2).mono fun r β hr => ?_
      obtain ⟨rfl, hg⟩ := hr
      obtain ⟨z1, z2⟩ := lateM_bd (runsM c)[j] c1.chans[i].f c1.chans[i].t
      have htk : (runsM c).take (j + 1) = (runsM c).take j ++ [(runsM c)[j]] := by rw [List.take_add_one]; simp [cj]
      have fin : ∀ (s' : AS) (w' : Int), s' 47 = .int .i64 ((j : Int) + 1) → s' 11 = .int .i64 w' → -1 ≤ w' → w' ≤ 8192 → (0 ≤ w' → 0 ≤ w ∧ w ≤ w' ∧ 0 ≤ lateM (runsM c)[j] c1.chans[i].f c1.chans[i].t ∧ lateM (runsM c)[j] c1.chans[i].f c1.chans[i].t ≤ w') → agn J2 ((runsM c).length - j) s' β :=
        fun s' w' g1 g2 g3 g4 g5 => agn_mk ((runsM c).length - (j + 1)) (by omega) (hJ2 _ _ _ ⟨j + 1, w', rfl, by omega, by simpa using g1, g2, g3, g4, fun h l hl => by
          obtain ⟨k1, k2, k3, k4⟩ := g5 h
          rw [htk] at hl
          rcases List.mem_append.1 hl with hl | hl
          · obtain ⟨m1, m2⟩ := hw k1 l hl
            exact ⟨m1, by omega⟩
          · simp at hl; subst hl; exact ⟨k3, k4⟩, hf.trans (hg.mono hf.n)⟩)
      generalize lateM (runsM c)[j] c1.chans[i].f c1.chans[i].t = z at *
      by_cases d1 : z < 0
      · simp [d1, t47, e2]
        exact fin _ (-1) (by simp) (by simp) (by omega) (by omega) (by omega)
      by_cases d2 : w < 0
      · simp [d1, t11, d2, t47, e2]
        exact fin _ (-1) (by simp) (by simp) (by omega) (by omega) (by omega)
      simp [d1, t11, d2, t47, e2]
      refine fin _ (if w < z then z else w) (by simp) (by simp) ?_ ?_ ?_ <;> split <;> omega
    have : j = (runsM c).length := by omega
    subst this
    simp only [List.take_length] at hw
    by_cases d1 : 0 < w
    case neg =>
      simp [t47, t11, d1, t42, e1]
      exact agn_mk (c.chans.length - (i + 1)) (by omega) (hJ1 _ _ _ ⟨i + 1, c1, rfl, by omega, by simp, K1, fun j h hj => hz j h (by omega), A2⟩)
    simp [t47, t11, d1]
    obtain ⟨ta, hT2⟩ := A2.tp
    refine (next_ok L ta 3 id _ hT2).mono fun r β hr => ?_
    obtain ⟨q, rfl, q0, q1, hon⟩ := hr
    have A3 := A2.on hon
    by_cases d2 : 0 < q
    case neg =>
      simp [d2, t42, e1]
      exact agn_mk (c.chans.length - (i + 1)) (by omega) (hJ1 _ _ _ ⟨i + 1, c1, rfl, by omega, by simp, K1, fun j h hj => hz j h (by omega), A3⟩)
    simp [d2]
    clear hb2 o3 o2 o4 o5 o6 cidx hvc2
    have hb3 := A3.bx.2.2
    obtain ⟨tb, hT3⟩ := A3.tp
    obtain ⟨o, ccx, cs, hvc2, o2, o3, o4, o5, o6⟩ := A3.late hic
    have cidx : aindexAddr Try.prog 23 vc (.int .i64 (i : Int)) = some (.pointer (some ⟨o, i * 6, none⟩)) := by rw [hvc2]; simp [hic, hcl1, ci1]
    refine wdraw (tks [0, 1, 1, 1] (.pick (.cons 0 (.pick (.cons 0 (.take 0 (.take 0 (.take 0 (.take 0 (.pick (.cons 0 (.done) .nil)))))) .nil)) (.cons 1 (.take 0 (.take 0 (.take 0 (.take 0 (.take 0 (.pick (.cons 0 (.done) .nil))))))) .nil)))) (by kernel_rfl) ?_
    simp [hb3, cidx, o2]
    refine ⟨?_, ?_⟩
    all_goals
      refine (next_ok L tb 6 id _ hT3).mono fun r δ hr => ?_
      obtain ⟨q2, rfl, q20, q21, hon2⟩ := hr
      have q21 := q21 (by omega)
      have A4 := A3.on hon2
      obtain ⟨o', ccx', cs', hvc3, p2, p3, p4, p5, p6⟩ := A4.late hic
      rw [hvc2] at hvc3
      cases hvc3
      have e3 : IntKind.i64.wrap (w + q2) = w + q2 := w64 (by omega)
      have hlt5 : i * 6 + 5 + 1 ≤ cs'.length := by omega
      have hw4 : (if 4096 < w + q2 then 4096 else w + q2) = min (w + q2) 4096 := by rw [Int.min_def]; split <;> split <;> omega
      have A5 := p6 (min (w + q2) 4096)
      have K2 : Asked0 c { c1 with chans := c1.chans.set i { c1.chans[i] with late := min (w + q2) 4096 } } := K1.late' hic (.inr ⟨w, q2, d1, q20, by omega, rfl, fun l hl => hw (by omega) l hl⟩)
      have hb4 := A4.bx.2.2
      simp [e3, cidx, p2, hlt5, t42, e1, t11, hb4]
      refine agn_mk (c.chans.length - (i + 1)) (by omega) (hJ1 _ _ _ ⟨i + 1, _, rfl, by omega, by simp, K2, ?_, ?_⟩)
      · intro j h hj
        simp only [List.getElem_set_ne (show i ≠ j by omega)]
        exact hz j (by simpa using h) (by omega)
      · rw [hw4]; exact A5
  have : i = c.chans.length := by omega
  subst this
  clear hz hJ1
  obtain ⟨ri, rf, rlen, ridx, rrd⟩ := runs_rd A1.rl
  obtain ⟨b, hb, bp⟩ := rrd _ (.refl _ _)
  have hl1 : 0 < (runsM c).length := by omega
  obtain ⟨b1, u, b2, b3, b4⟩ := bp 0 hl1
  have ridx0 := ridx .i64 0 hl1
  have hlb0 := hlb _ (List.getElem_mem hl1)
  simp at ridx0 b1 b2
  simp [t42, hlvv, ridx0, hb (by omega), b1, b2]
  refine (total_ok _ _ _ b4 hlb0.1 (by have := hlb0.2; omega)).mono fun r β hr => ?_
  obtain ⟨rfl, hg⟩ := hr
  have A2 := A1.up hg
  obtain ⟨ta, hT2⟩ := A2.tp
  simp
  refine (next_ok L ta 3 id _ hT2).mono fun r γ hr => ?_
  obtain ⟨q, rfl, q0, q1, hon⟩ := hr
  have q1 := q1 (by omega)
  have A3 := A2.on hon
  have e1 : IntKind.i64.wrap (2 + q) = 2 + q := w64 (by omega)
  simp [e1]
  refine wcutb [15, 16] 100 110 (by kernel_rfl) (fun t α' => ∃ p, t 15 = .int .i64 p ∧ α' = γ) ?_ ?_
  · refine wlp [15, 16] 100 110 (by kernel_rfl) (2 + q).toNat (fun k t α' => ∃ (j : Nat) (p : Int), k = j ∧ (j : Int) ≤ 4 ∧ t 16 = .int .i64 j ∧ t 15 = .int .i64 p ∧ α' = γ) ⟨(2 + q).toNat, totM (runsM c)[0], rfl, by omega, by simp; omega, by simp, rfl⟩ ?_
    rintro J2 hJ2 j t2 α4 ⟨_, p, rfl, hj, t16, t15, rfl⟩
    by_cases cj : 1 < j
    · have cj' : (1 : Int) < j := by omega
      have hj0 : ¬ j = 0 := by omega
      have hm1 := Int.tmod_lt_of_pos p (show 0 < (j : Int) by omega)
      have hm2 : -(j : Int) < p.tmod j := Int.lt_tmod_of_pos p (show 0 < (j : Int) by omega)
      have e2 : IntKind.i64.wrap (p.tmod j) = p.tmod j := w64 (by omega)
      have e3 : IntKind.i64.wrap ((j : Int) - 1) = (j : Int) - 1 := w64 (by omega)
      by_cases hd : p.tmod j = 0
      case neg =>
        have hd' : (p.tmod j == 0) = false := by simpa using hd
        simp [t16, t15, cj', hj0, e2, e3, hd, hd']
        exact agn_mk (j - 1) (by omega) (hJ2 _ _ _ ⟨j - 1, p, rfl, by omega, by simp; omega, by simpa using t15, rfl⟩)
      simp [t16, t15, cj', hj0, e2, e3, hd]
    have cj' : ¬ (1 : Int) < j := by omega
    simp [t16, t15, cj']
  rintro t2 _ ⟨per, t15, rfl⟩
  have hb3 := A3.bx.2.2
  have plen : alen Try.prog #[22] vp = some (.int .i64 (c.parts.length : Int)) := by rw [hvp]; simp
  simp [hb3, plen]
  clear hb bp b1 b2 b3 b4 ridx0 rrd rlen ridx
  refine wlp [17, 18, 20] 114 153 (by kernel_rfl) c.parts.length (fun k t α' => ∃ i c1, k = c.parts.length - i ∧ i ≤ c.parts.length ∧ t 114 = .int .i64 i ∧ Asked0 c c1 ∧ Ask N id L α.n (α.n + 1) vp vc vt lv (runsM c) α α' c1)
    ⟨0, c1, by omega, by omega, by simp, K1, A3⟩ ?_
  clear A1 A2 A3 K1 hb3 hon hT2 hg
  rintro J1 hJ1 k t3 α3 ⟨i, c1, rfl, hi1, t114, K1, A1⟩
  have hpl1 := K1.pl
  by_cases ci1 : i < c.parts.length
  · obtain ⟨ri, rf, rlen, ridx, rrd⟩ := runs_rd A1.rl
    have e1 : IntKind.i64.wrap ((i : Int) + 1) = (i : Int) + 1 := w64 (by omega)
    simp [t114, ci1, rlen, hlvv]
    have hic : i < c1.parts.length := by omega
    refine wlp [18, 20] 119 129 (by kernel_rfl) (runsM c).length (fun k t α' => ∃ j w, k = (runsM c).length - j ∧ j ≤ (runsM c).length ∧ t 119 = .int .i64 j ∧ t 18 = .int .i64 w ∧ -1 ≤ w ∧ w ≤ 4096 ∧ Fr α3.n α3 α')
      ⟨0, 4096, by omega, by omega, by simp, by simp, by omega, by omega, .refl _ _⟩ ?_
    rintro J2 hJ2 k t4 α4 ⟨j, w, rfl, hj, t119, t18, hw1, hw2, hf⟩
    have A2 := A1.up hf
    have hb2 := A2.bx.2.2
    by_cases cj : j < (runsM c).length
    · obtain ⟨b, hb, bp⟩ := rrd _ hf
      obtain ⟨b1, u, b2, b3, b4⟩ := bp j cj
      have e2 : IntKind.i64.wrap ((j : Int) + 1) = (j : Int) + 1 := w64 (by omega)
      simp [t119, cj, ridx .i64 j cj, hb (by omega), b1, b2, t15]
      have hlbj := hlb _ (List.getElem_mem cj)
      refine (budget_ok (runsM c)[j] i per _ u b4 hlbj.1 hlbj.2).mono fun r β hr => ?_
      obtain ⟨rfl, hg⟩ := hr
      have z1 := budM_bd (runsM c)[j] i per
      simp [t18, t119, e2]
      refine agn_mk ((runsM c).length - (j + 1)) (by omega) (hJ2 _ _ _ ⟨j + 1, if budM (runsM c)[j] i per < w then budM (runsM c)[j] i per else w, rfl, by omega, by simp, by simp, ?_, ?_, hf.trans (hg.mono hf.n)⟩) <;> split <;> omega
    have : j = (runsM c).length := by omega
    subst this
    by_cases d1 : 0 < w
    case neg =>
      simp [t119, t18, d1, t114, e1]
      exact agn_mk (c.parts.length - (i + 1)) (by omega) (hJ1 _ _ _ ⟨i + 1, c1, rfl, by omega, by simp, K1, A2⟩)
    simp [t119, t18, d1]
    obtain ⟨ta, hT2⟩ := A2.tp
    refine (next_ok L ta 2 id _ hT2).mono fun r β hr => ?_
    obtain ⟨q, rfl, q0, q1, hon⟩ := hr
    have A3 := A2.on hon
    by_cases d2 : q = 0
    case neg =>
      simp [d2, t114, e1]
      exact agn_mk (c.parts.length - (i + 1)) (by omega) (hJ1 _ _ _ ⟨i + 1, c1, rfl, by omega, by simp, K1, A3⟩)
    simp [d2]
    have hb3 := A3.bx.2.2
    obtain ⟨tb, hT3⟩ := A3.tp
    obtain ⟨o, ccx, cs, hvc2, o2, o3, o6⟩ := A3.bud hic
    have cidx : aindexAddr Try.prog 22 vp (.int .i64 (i : Int)) = some (.pointer (some ⟨o, i * 11, none⟩)) := by rw [hvc2]; simp [hic, hpl1, ci1]
    refine wdraw (tks [0, 1, 1, 2, 2, 2, 5] (.pick (.cons 0 (.pick (.cons 0 (.pick (.cons 0 (.take 0 (.take 0 (.take 0 (.take 0 (.pick (.cons 0 (.take 0 (.take 0 (.pick (.cons 0 (.done) .nil)))) .nil)))))) .nil)) (.cons 1 (.take 1 (.take 1 (.take 1 (.take 1 (.pick (.cons 0 (.pick (.cons 0 (.take 0 (.take 0 (.pick (.cons 0 (.done) .nil)))) .nil)) (.cons 1 (.take 0 (.take 0 (.take 0 (.pick (.cons 0 (.done) .nil))))) .nil))))))) .nil))) (.cons 1 (.pick (.cons 0 (.pick (.cons 0 (.take 0 (.take 0 (.take 0 (.take 0 (.pick (.cons 0 (.take 0 (.take 0 (.pick (.cons 0 (.done) .nil)))) .nil)))))) .nil)) (.cons 1 (.take 0 (.take 0 (.take 0 (.take 0 (.take 0 (.pick (.cons 0 (.take 0 (.take 0 (.pick (.cons 0 (.done) .nil)))) .nil))))))) .nil))) (.cons 2 (.take 0 (.take 1 (.take 1 (.take 1 (.take 1 (.pick (.cons 0 (.pick (.cons 0 (.take 0 (.take 0 (.pick (.cons 0 (.done) .nil)))) .nil)) (.cons 1 (.take 0 (.take 0 (.take 0 (.pick (.cons 0 (.done) .nil))))) .nil)))))))) .nil))))) (by kernel_rfl) ?_
    simp [hb3, cidx, o2]
    with_reducible repeat' apply And.intro
    all_goals
      refine (next_ok L tb 2 id _ hT3).mono fun r δ hr => ?_
      obtain ⟨q2, rfl, q20, q21, hon2⟩ := hr
      have q21 := q21 (by omega)
      have A4 := A3.on hon2
      obtain ⟨o', ccx', cs', hvc3, p2, p3, p6⟩ := A4.bud hic
      rw [hvc2] at hvc3
      cases hvc3
      have e3 : IntKind.i64.wrap (w - q2) = w - q2 := w64 (by omega)
      have hlt1 : i * 11 + 1 + 1 ≤ cs'.length := by omega
      have hlt2 : i * 11 + 2 + 1 ≤ cs'.length := by omega
      have hb4 := A4.bx.2.2
      have hne : α.n ≠ o := fun h => by
        rw [← h, hb4] at p2
        injection p2 with p2
        injection p2 with _ p2
        exact absurd p2 (by decide)
      have hb5 : ∀ b, (δ.set o b).get α.n = some ⟨[vp, vc, vt], 26, true⟩ := fun b => by rw [AH.set_get_ne _ _ hne]; exact hb4
      simp [e3, cidx, p2, hlt1, hlt2, t114, e1, t18, hb4, t15, hb5]
      with_reducible repeat' apply And.intro
      all_goals exact agn_mk (c.parts.length - (i + 1)) (by omega) (hJ1 _ _ _ ⟨i + 1, _, rfl, by omega, by simp, K1.bud' hic, p6 _ _⟩)
  have : i = c.parts.length := by omega
  subst this
  have hb2 := A1.bx.2.2
  have hcfg : IsCfg α3 (.agg #[vp, vc, vt]) c1 := ⟨vp, vc, vt, rfl, A1.par.sl, A1.cha.sl, A1.tab⟩
  have hnm1 : ∀ p ∈ c1.parts, p.name.size ≤ 1000000000000 := fun p hp => by
    have : bare p ∈ c.parts.map bare := by rw [← K1.parts]; exact List.mem_map_of_mem hp
    obtain ⟨p', h1, h2⟩ := List.mem_map.1 this
    have h3 : (bare p').name = (bare p).name := by rw [h2]
    change p'.name = p.name at h3
    rw [← h3]
    exact hnm p' h1
  simp [t114, hb2]
  refine (rRight_ok vp vc vt c1 _ hcfg hnm1 (fun t ht => by rw [K1.tabs] at ht; have := t3' t ht; omega)).mono fun r β hr => ?_
  obtain ⟨rfl, hg⟩ := hr
  have A2 := A1.up hg
  have hb3 := A2.bx.2.2
  have hr3 := A2.rx.2.2
  have fin : ∀ (c' : Cf) (γ : AH), Asked0 c c' → (cfgE c' = 0 ∨ ∀ p ∈ c'.parts, p.bud = 0 ∧ p.per = 0) → Ask N id L α.n (α.n + 1) vp vc vt lv (runsM c) α γ c' → ∃ c', Asked0 c c' ∧ (cfgE c' = 0 ∨ ∀ p ∈ c'.parts, p.bud = 0 ∧ p.per = 0) ∧ α.n ≤ (γ.set (α.n + 1) (some ⟨[vp, vc, vt], 26, true⟩)).n ∧ (∀ i, i < N → ¬ i = id → (γ.set (α.n + 1) (some ⟨[vp, vc, vt], 26, true⟩)).get i = α.get i) ∧ (∃ a, IsTape (γ.set (α.n + 1) (some ⟨[vp, vc, vt], 26, true⟩)) id L a) ∧
      Ow N 68 prtK (γ.set (α.n + 1) (some ⟨[vp, vc, vt], 26, true⟩)) vp c'.parts ∧ Ow N 36 chanK (γ.set (α.n + 1) (some ⟨[vp, vc, vt], 26, true⟩)) vc c'.chans ∧ Tabs (γ.set (α.n + 1) (some ⟨[vp, vc, vt], 26, true⟩)) vt c'.tabs := fun c' γ h1 h2 h3 => by
    obtain ⟨k1, k2, k3, k4, ⟨a, k5⟩, k6, k7, k8, k9, k10, ⟨r1, r2, r3⟩⟩ := h3
    refine ⟨c', h1, h2, k1, fun i hi hne => by rw [AH.set_get_ne _ _ (by omega)]; exact k4 i hi hne, ⟨a, k5.set (e := 26) r3 rfl (by decide) (by omega) _⟩, ow_set k6 (e' := 26) r3 rfl (by decide) (prtK_apart (by decide)) _, ow_set k7 (e' := 26) r3 rfl (by decide) (flatK_apart _ _ _ _ _) _, k8.set (e' := 26) r3 rfl (by decide) (sliceK_apart (by decide) (flatK_apart _ _ _ _ _)) _⟩
  by_cases d1 : cfgE c1 = 0
  · simp [d1, hb3, hr3, cvp, cvc, cvt]
    exact fin c1 _ K1 (.inl d1) A2
  have d1' : (cfgE c1 == 0) = false := by simpa using d1
  simp [d1, d1', hb3, plen]
  refine wlp [21] 160 173 (by kernel_rfl) c.parts.length (fun k t α' => ∃ i c1, k = c.parts.length - i ∧ i ≤ c.parts.length ∧ t 160 = .int .i64 i ∧ Asked0 c c1 ∧ (∀ j (h : j < c1.parts.length), j < i → c1.parts[j].bud = 0 ∧ c1.parts[j].per = 0) ∧ Ask N id L α.n (α.n + 1) vp vc vt lv (runsM c) α α' c1)
    ⟨0, c1, by omega, by omega, by simp, K1, fun j _ hj => by omega, A2⟩ ?_
  clear A1 A2 K1 hb3 hr3 hcfg hnm1 d1 d1' hb2 hpl1 hg hi1 ci1
  rintro J1 hJ1 k t4 α4 ⟨i, c1, rfl, hi1, t160, K1, hz, A1⟩
  have hpl1 := K1.pl
  have hb3 := A1.bx.2.2
  have hr3 := A1.rx.2.2
  by_cases ci1 : i < c.parts.length
  · have hic : i < c1.parts.length := by omega
    have e1 : IntKind.i64.wrap ((i : Int) + 1) = (i : Int) + 1 := w64 (by omega)
    obtain ⟨o, ccx, cs, hvc2, p2, p3, p6⟩ := A1.bud hic
    have cidx : aindexAddr Try.prog 22 vp (.int .i64 (i : Int)) = some (.pointer (some ⟨o, i * 11, none⟩)) := by rw [hvc2]; simp [hic, hpl1, ci1]
    have hlt1 : i * 11 + 1 + 1 ≤ cs.length := by omega
    have hlt2 : i * 11 + 2 + 1 ≤ cs.length := by omega
    have hne : α.n ≠ o := fun h => by
      rw [← h, hb3] at p2
      injection p2 with p2
      injection p2 with _ p2
      exact absurd p2 (by decide)
    have hb5 : ∀ b, (α4.set o b).get α.n = some ⟨[vp, vc, vt], 26, true⟩ := fun b => by rw [AH.set_get_ne _ _ hne]; exact hb3
    simp [t160, ci1]
    refine wdraw (tks [0, 0, 0, 0, 1, 1, 1] (.pick (.cons 0 (.pick (.cons 0 (.take 0 (.take 0 (.pick (.cons 0 (.done) .nil)))) .nil)) (.cons 1 (.take 0 (.take 0 (.take 0 (.pick (.cons 0 (.done) .nil))))) .nil)))) (by kernel_rfl) ?_
    simp [hb3, cidx, p2, hlt1, hlt2, hb5, t160, e1]
    with_reducible repeat' apply And.intro
    all_goals
      refine agn_mk (c.parts.length - (i + 1)) (by omega) (hJ1 _ _ _ ⟨i + 1, _, rfl, by omega, by simp, K1.bud' (b := 0) (p := 0) hic, ?_, p6 0 0⟩)
      intro j h hj
      by_cases hji : j = i
      · subst hji; simp
      · simp only [List.getElem_set_ne (show i ≠ j by omega)]
        exact hz j (by simpa using h) (by omega)
  have : i = c.parts.length := by omega
  subst this
  simp [t160, hb3, hr3, cvp, cvc, cvt]
  refine fin c1 _ K1 (.inr fun p hp => ?_) A1
  obtain ⟨j, hj, rfl⟩ := List.getElem_of_mem hp
  exact hz j hj (by omega)
end Go.Proofs.Ytggkeldedennfaa

set_option linter.unusedVariables false
set_option linter.unusedSimpArgs false
namespace Go.Proofs.Ytggkeldedennfaa
open Go Go.RowKit Go.Lay Go.Nod

theorem ow_kp {τ : Type} {N : Nat} {e e' : TypeId} {K : Kd τ} {α α' : AH} {v : Value} {xs : List τ} (h : Ow N e K α v xs) (hf : Kp e' α α') (hn : α.n ≤ α'.n) (hne : e ≠ e') (hk : ∀ x c, K.R α x c → K.R α' x c) : Ow N e K α' v xs := by
  rcases h with h | ⟨i, c, b, h1, h2, h3, h4, h5, h6, h7, h8⟩
  · exact .inl h
  · exact .inr ⟨i, c, b, h1, h2, Nat.lt_of_lt_of_le h3 hn, hf i b h4 (by rw [h5]; exact hne) h3, h5, h6, h7, fun j hj => hk _ _ (h8 j hj)⟩
theorem prt_kp {α α' : AH} {e : TypeId} (hf : Kp e α α') (hn : α.n ≤ α'.n) (hne : (70 : TypeId) ≠ e) : ∀ x c, prtK.R α x c → prtK.R α' x c :=
  fun x c ⟨vp, h0, h1, h2, h3, h4, hc, hh, hp⟩ => ⟨vp, h0, h1, h2, h3, h4, hc, hh, Sl.kp hp hf hn hne flat_mono⟩
theorem nodes_kp {α α' : AH} {e : TypeId} (hf : Kp e α α') (hn : α.n ≤ α'.n) (hne : (55 : TypeId) ≠ e) : ∀ x c, (sliceK 55 nodeK).R α x c → (sliceK 55 nodeK).R α' x c :=
  fun x c ⟨v, hv, hs⟩ => ⟨v, hv, Sl.kp hs hf hn hne flat_mono⟩
theorem TapeOn.set {α α' : AH} {id : Nat} {L : List Int} (h : TapeOn α id L α') (hid : id < α.n) {i : Nat} {b : ABlk} {e : TypeId} (hi : α.n ≤ i) (hb : α'.get i = some b) (hbe : b.elem = e) (h2 : (3 : TypeId) ≠ e) (o : Option ABlk) : TapeOn α id L (α'.set i o) := by
  obtain ⟨hX, a, hT⟩ := h
  exact ⟨⟨hX.n, fun j hj hne => by rw [AH.set_get_ne _ _ (by omega)]; exact hX.get j hj hne⟩, a, hT.set hb hbe h2 (by omega) o⟩
theorem TapeOn.kp {α α' α'' : AH} {id : Nat} {L : List Int} (h : TapeOn α id L α') (hid : id < α.n) {e : TypeId} (hf : Fr α.n α' α'') (hk : Kp e α' α'') (h1 : (31 : TypeId) ≠ e) (h2 : (3 : TypeId) ≠ e) : TapeOn α id L α'' := by
  obtain ⟨hX, a, hT⟩ := h
  exact ⟨⟨Nat.le_trans hX.n hf.n, fun j hj hne => by rw [hf.get j hj]; exact hX.get j hj hne⟩, a, hT.kp hk hf.n h1 h2⟩
structure Cfs (id : Nat) (L : List Int) (bx rx : Nat) (α0 α : AH) (vp vc vt : Value) (c : Cf) : Prop where
  n : α0.n + 2 ≤ α.n
  hid : id < α0.n
  fr : ∀ i, i < α0.n → i ≠ id → α.get i = α0.get i
  tp : ∃ at_, IsTape α id L at_
  par : Ow (α0.n + 2) 68 prtK α vp c.parts
  cha : Ow (α0.n + 2) 36 chanK α vc c.chans
  tab : Ow (α0.n + 2) 49 (sliceK 55 nodeK) α vt c.tabs
  hbx : α0.n ≤ bx ∧ bx < α.n ∧ α.get bx = some ⟨[vp, vc, vt], 26, true⟩
  hrx : α0.n ≤ rx ∧ rx < α.n ∧ α.get rx = some ⟨[.slice none 0 0, .slice none 0 0, .slice none 0 0], 26, true⟩
  ne : bx ≠ rx
section
variable {id : Nat} {L : List Int} {bx rx : Nat} {vp vc vt : Value} {α0 α β : AH} {c : Cf}
theorem Cfs.up (h : Cfs id L bx rx α0 α vp vc vt c) (hf : Fr α.n α β) : Cfs id L bx rx α0 β vp vc vt c := by
  obtain ⟨h1, h3, h4, ⟨a, h5⟩, h6, h7, h8, ⟨b1, b2, b3⟩, ⟨r1, r2, r3⟩, hne⟩ := h
  exact ⟨Nat.le_trans h1 hf.n, h3, fun i hi hne => by rw [hf.get i (by omega)]; exact h4 i hi hne, ⟨a, h5.fr hf⟩, h6.fr hf, h7.fr hf, h8.fr hf, ⟨b1, Nat.lt_of_lt_of_le b2 hf.n, by rw [hf.get _ b2]; exact b3⟩, ⟨r1, Nat.lt_of_lt_of_le r2 hf.n, by rw [hf.get _ r2]; exact r3⟩, hne⟩
theorem Cfs.on (h : Cfs id L bx rx α0 α vp vc vt c) (hf : TapeOn α id L β) : Cfs id L bx rx α0 β vp vc vt c := by
  obtain ⟨h1, h3, h4, ⟨a, h5⟩, h6, h7, h8, ⟨b1, b2, b3⟩, ⟨r1, r2, r3⟩, hne⟩ := h
  obtain ⟨hX, hT⟩ := hf
  refine ⟨Nat.le_trans h1 hX.n, h3, fun i hi hne => by rw [hX.get i (by omega) hne]; exact h4 i hi hne, hT, Ow.frx h6 hX (by omega) (h5.prt hX), Ow.frx h7 hX (by omega) flat_mono, Ow.frx h8 hX (by omega) ?_, ⟨b1, Nat.lt_of_lt_of_le b2 hX.n, by rw [hX.get _ b2 (by omega)]; exact b3⟩, ⟨r1, Nat.lt_of_lt_of_le r2 hX.n, by rw [hX.get _ r2 (by omega)]; exact r3⟩, hne⟩
  exact fun x c ⟨v, hv, hs⟩ => ⟨v, hv, h5.sl hX hs (by decide) flat_mono⟩
/-- a field of the configuration set anew -/
theorem Cfs.box {vp' vc' vt' : Value} {c' : Cf} (h1 : α0.n + 2 ≤ α.n) (h3 : id < α0.n) (h4 : ∀ i, i < α0.n → i ≠ id → α.get i = α0.get i) (h5 : ∃ a, IsTape α id L a) (h6 : Ow (α0.n + 2) 68 prtK α vp' c'.parts) (h7 : Ow (α0.n + 2) 36 chanK α vc' c'.chans)
    (h8 : Ow (α0.n + 2) 49 (sliceK 55 nodeK) α vt' c'.tabs) (hb : α0.n ≤ bx ∧ bx < α.n ∧ α.get bx = some ⟨[vp, vc, vt], 26, true⟩) (hr : α0.n ≤ rx ∧ rx < α.n ∧ α.get rx = some ⟨[.slice none 0 0, .slice none 0 0, .slice none 0 0], 26, true⟩) (hne : bx ≠ rx) :
    Cfs id L bx rx α0 (α.set bx (some ⟨[vp', vc', vt'], 26, true⟩)) vp' vc' vt' c' := by
  obtain ⟨a, h5⟩ := h5
  obtain ⟨b1, b2, b3⟩ := hb
  obtain ⟨r1, r2, r3⟩ := hr
  exact ⟨h1, h3, fun i hi hne => by rw [AH.set_get_ne _ _ (by omega)]; exact h4 i hi hne, ⟨a, h5.set (e := 26) b3 rfl (by decide) (by omega) _⟩, ow_set h6 (e' := 26) b3 rfl (by decide) (prtK_apart (by decide)) _, ow_set h7 (e' := 26) b3 rfl (by decide) (flatK_apart _ _ _ _ _) _,
    ow_set h8 (e' := 26) b3 rfl (by decide) (sliceK_apart (by decide) (flatK_apart _ _ _ _ _)) _, ⟨b1, b2, AH.set_get _ _ _⟩, ⟨r1, r2, by rw [AH.set_get_ne _ _ (Ne.symm hne)]; exact r3⟩, hne⟩
theorem Cfs.pushP (h : Cfs id L bx rx α0 α vp vc vt c) {x : Pt} {cs : List Value} (hx : prtR α x cs) (hl : c.parts.length ≤ 1000000) : ∃ v' α', aappend Try.prog #[22, 22] vp (.slice (some ⟨α.n, 0, none⟩) 1 0) (α.alloc ⟨cs, 68, true⟩) = some (v', α') ∧
    α'.get bx = some ⟨[vp, vc, vt], 26, true⟩ ∧ isCell v' = true ∧ Cfs id L bx rx α0 (α'.set bx (some ⟨[v', vc, vt], 26, true⟩)) v' vc vt { c with parts := c.parts ++ [x] } := by
  obtain ⟨h1, h3, h4, ⟨a, h5⟩, h6, h7, h8, ⟨b1, b2, b3⟩, ⟨r1, r2, r3⟩, hne⟩ := h
  obtain ⟨v', α', p1, p2, p3, p4⟩ := h6.push el22 h1 (x := x) (c := cs) hx (prtK_apart (by decide)) (by omega) 0
  have hn := p3.n
  have b3' := p4 _ _ b3 (show (26 : TypeId) ≠ 68 by decide) b2
  have r3' := p4 _ _ r3 (show (26 : TypeId) ≠ 68 by decide) r2
  exact ⟨v', α', p1, b3', p2.sl.isCell, Cfs.box (Nat.le_trans h1 hn) h3 (fun i hi hne => by rw [p3.get i (by omega)]; exact h4 i hi hne) ⟨a, h5.kp p4 hn (by decide) (by decide)⟩ p2 (ow_kp h7 p4 hn (by decide) flat_mono) (ow_kp h8 p4 hn (by decide) (nodes_kp p4 hn (by decide))) ⟨b1, by omega, b3'⟩ ⟨r1, by omega, r3'⟩ hne⟩
theorem Cfs.pushC (h : Cfs id L bx rx α0 α vp vc vt c) (x : Cn) (hl : c.chans.length ≤ 1000000) : ∃ v' α', aappend Try.prog #[23, 23] vc (.slice (some ⟨α.n, 0, none⟩) 1 0) (α.alloc ⟨x.enc, 36, true⟩) = some (v', α') ∧
    α'.get bx = some ⟨[vp, vc, vt], 26, true⟩ ∧ isCell v' = true ∧ Cfs id L bx rx α0 (α'.set bx (some ⟨[vp, v', vt], 26, true⟩)) vp v' vt { c with chans := c.chans ++ [x] } := by
  obtain ⟨h1, h3, h4, ⟨a, h5⟩, h6, h7, h8, ⟨b1, b2, b3⟩, ⟨r1, r2, r3⟩, hne⟩ := h
  obtain ⟨v', α', p1, p2, p3, p4⟩ := h7.push el23 h1 (x := x) (c := x.enc) rfl (flatK_apart _ _ _ _ _) (by omega) 0
  have hn := p3.n
  have b3' := p4 _ _ b3 (show (26 : TypeId) ≠ 36 by decide) b2
  have r3' := p4 _ _ r3 (show (26 : TypeId) ≠ 36 by decide) r2
  exact ⟨v', α', p1, b3', p2.sl.isCell, Cfs.box (Nat.le_trans h1 hn) h3 (fun i hi hne => by rw [p3.get i (by omega)]; exact h4 i hi hne) ⟨a, h5.kp p4 hn (by decide) (by decide)⟩ (ow_kp h6 p4 hn (by decide) (prt_kp p4 hn (by decide))) p2 (ow_kp h8 p4 hn (by decide) (nodes_kp p4 hn (by decide))) ⟨b1, by omega, b3'⟩ ⟨r1, by omega, r3'⟩ hne⟩
theorem Cfs.pushT (h : Cfs id L bx rx α0 α vp vc vt c) {x : List Nd} {v : Value} (hx : Nodes α v x) (hl : c.tabs.length ≤ 1000000) : ∃ v' α', aappend Try.prog #[24, 24] vt (.slice (some ⟨α.n, 0, none⟩) 1 0) (α.alloc ⟨[v], 49, true⟩) = some (v', α') ∧
    α'.get bx = some ⟨[vp, vc, vt], 26, true⟩ ∧ isCell v' = true ∧ Cfs id L bx rx α0 (α'.set bx (some ⟨[vp, vc, v'], 26, true⟩)) vp vc v' { c with tabs := c.tabs ++ [x] } := by
  obtain ⟨h1, h3, h4, ⟨a, h5⟩, h6, h7, h8, ⟨b1, b2, b3⟩, ⟨r1, r2, r3⟩, hne⟩ := h
  obtain ⟨v', α', p1, p2, p3, p4⟩ := h8.push el24 h1 (x := x) (c := [v]) ⟨v, rfl, hx⟩ (sliceK_apart (by decide) (flatK_apart _ _ _ _ _)) (by omega) 0
  have hn := p3.n
  have b3' := p4 _ _ b3 (show (26 : TypeId) ≠ 49 by decide) b2
  have r3' := p4 _ _ r3 (show (26 : TypeId) ≠ 49 by decide) r2
  exact ⟨v', α', p1, b3', p2.sl.isCell, Cfs.box (Nat.le_trans h1 hn) h3 (fun i hi hne => by rw [p3.get i (by omega)]; exact h4 i hi hne) ⟨a, h5.kp p4 hn (by decide) (by decide)⟩ (ow_kp h6 p4 hn (by decide) (prt_kp p4 hn (by decide))) (ow_kp h7 p4 hn (by decide) flat_mono) p2 ⟨b1, by omega, b3'⟩ ⟨r1, by omega, r3'⟩ hne⟩
end
end Go.Proofs.Ytggkeldedennfaa
