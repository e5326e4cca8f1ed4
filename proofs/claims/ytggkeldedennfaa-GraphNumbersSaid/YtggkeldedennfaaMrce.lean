/- Row: horariumlaw7.GraphNumbers returns true, and leaves what came in as it was. Conditions: none. -/
import Derived.Test.YtggkeldedennfaaMrcd

set_option linter.unusedVariables false
set_option linter.unusedSimpArgs false
namespace Go.Proofs.Ytggkeldedennfaa
open Go Go.RowKit Go.Lay Go.Nod

def nmB (i : Nat) : ByteArray := ⟨#[112, 97 + UInt8.ofNat i]⟩
theorem nm_wrap {i : Nat} (hi : i < 4) : IntKind.i32.wrap (97 + (i : Int)) = 97 + (i : Int) := by
  match i, hi with
  | 0, _ => decide
  | 1, _ => decide
  | 2, _ => decide
  | 3, _ => decide
theorem nm_enc {i : Nat} (hi : i < 4) : Utf8.encode (97 + (i : Int)) = ⟨#[97 + UInt8.ofNat i]⟩ := by
  match i, hi with
  | 0, _ => rfl
  | 1, _ => rfl
  | 2, _ => rfl
  | 3, _ => rfl
theorem nm_app (i : Nat) : (⟨#[112]⟩ : ByteArray) ++ ⟨#[97 + UInt8.ofNat i]⟩ = nmB i := rfl
def pcOk (x : Pc) : Prop := (∃ k, x.e = 4 * k ∧ 0 ≤ k ∧ k < 6) ∧ 0 ≤ x.q ∧ x.q < 4
structure ptOk (p : Pt) : Prop where
  bud : p.bud = 0
  per : p.per = 0
  p1 : 1 ≤ p.procs.length ∧ p.procs.length ≤ 2
  p2 : ∀ x ∈ p.procs, pcOk x
  he : p.health.length = 5 ∧ ∀ h ∈ p.health, 0 ≤ h ∧ h ≤ 2
structure cnOk (n : Nat) (x : Cn) : Prop where
  f : 0 ≤ x.f ∧ x.f < n
  t : 0 ≤ x.t ∧ x.t < n
  ne : x.f ≠ x.t
  late : x.late = 0
  cap : if x.q = true then 1 ≤ x.cap ∧ x.cap ≤ 3 else x.cap = 0
structure CfgOk (c : Cf) : Prop where
  n1 : 1 ≤ c.parts.length ∧ c.parts.length ≤ 4
  nm : ∀ i (h : i < c.parts.length), c.parts[i].name = nmB i
  pt : ∀ p ∈ c.parts, ptOk p
  cl : c.chans.length ≤ 3
  ch : ∀ x ∈ c.chans, cnOk c.parts.length x
  tl : 1 ≤ c.tabs.length ∧ c.tabs.length ≤ 2
  tb : ∀ t ∈ c.tabs, frmM c.parts.length t
theorem alloc_alloc_get (α : AH) (a b : ABlk) : ((α.alloc a).alloc b).get α.n = some a := by rw [AH.alloc_get_ne _ _ (by simp)]; simp
theorem alloc_get1 (α : AH) (a b : ABlk) : ((α.alloc a).alloc b).get (α.n + 1) = some b := AH.alloc_get (α.alloc a) b
theorem tmod_ne {f r n : Int} (f0 : 0 ≤ f) (f1 : f < n) (r0 : 0 ≤ r) (r1 : r < n - 1) : f ≠ (f + 1 + r).tmod n := by
  rw [Int.tmod_eq_emod_of_nonneg (by omega)]
  by_cases h : f + 1 + r < n
  · rw [Int.emod_eq_of_lt (by omega) h]; omega
  · rw [show f + 1 + r = (f + 1 + r - n) + n by omega, Int.add_emod_right, Int.emod_eq_of_lt (by omega) (by omega)]; omega
set_option maxRecDepth 100000 in
set_option maxHeartbeats 4000000 in
theorem config_ok (L : List Int) (id : Nat) (at_ : Int) (α : AH) (hT : IsTape α id L at_) :
    NCalls Try.prog 10 [.pointer (some ⟨id, 0, none⟩)] α (fun v α' => ∃ c c', CfgOk c ∧ Asked0 c c' ∧ (cfgE c' = 0 ∨ ∀ p ∈ c'.parts, p.bud = 0 ∧ p.per = 0) ∧ IsCfg α' v c' ∧ TapeOn α id L α') := by
  have hid : id < α.n := hT.2.2.2.1
  refine ncw mixd Try.func10 rfl Try.results10 (by kernel_rfl) ?_
  simp
  have C0 : Cfs id L (α.n + 1) α.n α ((α.alloc ⟨[.slice none 0 0, .slice none 0 0, .slice none 0 0], 26, true⟩).alloc ⟨[.slice none 0 0, .slice none 0 0, .slice none 0 0], 26, true⟩) (.slice none 0 0) (.slice none 0 0) (.slice none 0 0) ⟨[], [], []⟩ := by
    have hf : Fr α.n α ((α.alloc ⟨[.slice none 0 0, .slice none 0 0, .slice none 0 0], 26, true⟩).alloc ⟨[.slice none 0 0, .slice none 0 0, .slice none 0 0], 26, true⟩) := (Fr.alloc0 _ _).up (Fr.alloc0 _ _)
    exact ⟨by simp [AH.alloc_n], hid, fun i hi _ => hf.get i hi, ⟨at_, hT.fr hf⟩, .nil, .nil, .nil, ⟨by omega, by simp, AH.alloc_get _ _⟩, ⟨by omega, by simp; omega, by rw [AH.alloc_get_ne _ _ (by simp)]; exact AH.alloc_get _ _⟩, by omega⟩
  generalize (α.alloc _).alloc _ = α1 at *
  obtain ⟨a1, hT1⟩ := C0.tp
  refine (next_ok L a1 4 id _ hT1).mono fun r β hr => ?_
  obtain ⟨n0, rfl, n00, n01, hon⟩ := hr
  have n01 := n01 (by omega)
  have C1 := C0.on hon
  have e1 : IntKind.i64.wrap (1 + n0) = 1 + n0 := w64 (by omega)
  simp [e1]
  obtain ⟨n, hn⟩ : ∃ n : Nat, 1 + n0 = (n : Int) := ⟨(1 + n0).toNat, by omega⟩
  rw [hn]
  have hn1 : 1 ≤ n := by omega
  have hn4 : n ≤ 4 := by omega
  clear e1 hn n00 n01 hon C0 hT1
  refine wlp [5, 6, 7, 8] 16 67 (by kernel_rfl) n (fun k t α' => ∃ i vp c, k = n - i ∧ i ≤ n ∧ t 5 = .int .i64 i ∧ c.parts.length = i ∧ c.chans = [] ∧ c.tabs = [] ∧ (∀ j (h : j < c.parts.length), ptOk c.parts[j] ∧ c.parts[j].name = nmB j) ∧ Cfs id L (α.n + 1) α.n α α' vp (.slice none 0 0) (.slice none 0 0) c)
    ⟨0, _, _, by omega, by omega, by simp, rfl, rfl, rfl, by simp, C1⟩ ?_
  rintro J0 hJ0 k t α2 ⟨i, vp, c, rfl, hi, t5, hcp, hcc, hct, hpt, C2⟩
  by_cases ci : i < n
  · have e1 : IntKind.i64.wrap ((i : Int) + 1) = (i : Int) + 1 := w64 (by omega)
    have e2 : IntKind.i64.wrap (97 + (i : Int)) = 97 + (i : Int) := w64 (by omega)
    have hi4 : i < 4 := by omega
    obtain ⟨a2, hT2⟩ := C2.tp
    simp [t5, ci, e2, nm_wrap hi4, nm_enc hi4, nm_app]
    refine (next_ok L a2 5 id _ hT2).mono fun r β1 hr => ?_
    obtain ⟨s0, rfl, -, -, hon⟩ := hr
    have C3 := C2.on hon
    obtain ⟨a3, hT3⟩ := C3.tp
    simp
    refine (next_ok L a3 8 id _ hT3).mono fun r β2 hr => ?_
    obtain ⟨s1, rfl, -, -, hon⟩ := hr
    have C4 := C3.on hon
    simp [nm_app]
    obtain ⟨a4, hT4⟩ := C4.tp
    have hid4 : id < β2.n := Nat.lt_of_lt_of_le C4.hid (by have := C4.n; omega)
    have T0 : TapeOn β2 id L (β2.alloc ⟨[.string (nmB i), .int .i64 0, .int .i64 0, .bool (s0 == 0), .bool (s1 == 0), .slice none 0 0, .int .i64 0, .int .i64 0, .int .i64 0, .int .i64 0, .int .i64 0], 68, true⟩) := hT4.on.fr (Fr.alloc0 _ _)
    have hb0 := AH.alloc_get β2 ⟨[.string (nmB i), .int .i64 0, .int .i64 0, .bool (s0 == 0), .bool (s1 == 0), .slice none 0 0, .int .i64 0, .int .i64 0, .int .i64 0, .int .i64 0, .int .i64 0], 68, true⟩
    have hn0 := AH.alloc_n β2 ⟨[.string (nmB i), .int .i64 0, .int .i64 0, .bool (s0 == 0), .bool (s1 == 0), .slice none 0 0, .int .i64 0, .int .i64 0, .int .i64 0, .int .i64 0, .int .i64 0], 68, true⟩
    generalize β2.alloc _ = β3 at *
    obtain ⟨a5, hT5⟩ := T0.2
    refine (next_ok L a5 2 id _ hT5).mono fun r β4 hr => ?_
    obtain ⟨k0, rfl, k00, k01, hon⟩ := hr
    have k01 := k01 (by omega)
    have T1 := T0.trans hon
    have hb1 := (hon.1.get β2.n (by omega) (by omega)).trans hb0
    simp
    refine wlp [7] 35 49 (by kernel_rfl) (k0.toNat + 1) (fun k t α' => ∃ (m : Nat) (vq : Value) (ps : List Pc), k = m ∧ m ≤ 2 ∧ t 7 = .int .i64 ((m : Int) - 1) ∧ ps.length + m = k0.toNat + 1 ∧ (∀ x ∈ ps, pcOk x) ∧ β2.n < α'.n ∧ TapeOn β2 id L α' ∧
        α'.get β2.n = some ⟨[.string (nmB i), .int .i64 0, .int .i64 0, .bool (s0 == 0), .bool (s1 == 0), vq, .int .i64 0, .int .i64 0, .int .i64 0, .int .i64 0, .int .i64 0], 68, true⟩ ∧ Ow β2.n 70 procK α' vq ps)
      ⟨k0.toNat + 1, .slice none 0 0, [], rfl, by omega, by simp; omega, by simp, by simp, by have := hon.1.n; omega, T1, hb1, .nil⟩ ?_
    rintro J1 hJ1 m t1 α3 ⟨_, vq, ps, rfl, hm, t7, hps, hpc, hlt2, T2, hb2, hq⟩
    by_cases cm : 1 ≤ m
    · have cm' : (1 : Int) ≤ m := by omega
      have e3 : IntKind.i64.wrap ((m : Int) - 1 - 1) = (m : Int) - 1 - 1 := w64 (by omega)
      simp [t7, cm']
      refine wdraw (.take 0 (.take 1 (.take 3 (.pick (.cons 0 (.pick (.cons 0 (.take 0 (.pick (.cons 0 (.take 0 (.pick (.cons 0 (.pick (.cons 0 (.take 0 (.pick (.cons 0 (.done) .nil))) .nil)) .nil))) .nil))) .nil)) (.cons 1 (.take 1 (.pick (.cons 0 (.pick (.cons 0 (.take 0 (.pick (.cons 0 (.pick (.cons 0 (.take 0 (.pick (.cons 0 (.done) .nil))) .nil)) .nil))) .nil)) (.cons 1 (.take 1 (.pick (.cons 0 (.pick (.cons 0 (.pick (.cons 0 (.take 0 (.pick (.cons 0 (.done) .nil))) .nil)) .nil)) (.cons 1 (.take 0 (.pick (.cons 0 (.take 0 (.pick (.cons 0 (.done) .nil))) .nil))) .nil)))) .nil)))) .nil)))))) (by kernel_rfl) ?_
      simp [hb2]
      with_reducible repeat' apply And.intro
      all_goals
        obtain ⟨a6, hT6⟩ := T2.2
        refine (next_ok L a6 6 id _ hT6).mono fun r δ1 hr => ?_
        obtain ⟨k1, rfl, k10, k11, hon1⟩ := hr
        have k11 := k11 (by omega)
        have T3 := T2.trans hon1
        have hb3 := (hon1.1.get β2.n hlt2 (by omega)).trans hb2
        have hq3 := Ow.frx hq hon1.1 hid4 flat_mono
        have hlt3 := Nat.lt_of_lt_of_le hlt2 hon1.1.n
        obtain ⟨a7, hT7⟩ := T3.2
        have e4 : IntKind.i64.wrap (4 * k1) = 4 * k1 := w64 (by omega)
        simp [e4, hb3]
        with_reducible repeat' apply And.intro
        all_goals
          refine (next_ok L a7 4 id _ hT7).mono fun r δ2 hr => ?_
          obtain ⟨q1, rfl, q10, q11, hon2⟩ := hr
          have q11 := q11 (by omega)
          have T4 := T3.trans hon2
          have hb4 := (hon2.1.get β2.n hlt3 (by omega)).trans hb3
          have hq4 := Ow.frx hq3 hon2.1 hid4 flat_mono
          have hlt4 := Nat.lt_of_lt_of_le hlt3 hon2.1.n
          obtain ⟨v', α5, p1, p2, p3, p4⟩ := hq4.push el65 T4.1.n (x := ⟨4 * k1, q1⟩) (c := [.int .i64 (4 * k1), .int .i64 q1]) rfl (flatK_apart _ _ _ _ _) (by omega) 0
          have hb5 := p4 _ _ hb4 (show (68 : TypeId) ≠ 70 by decide) hlt4
          have T5 := T4.kp hid4 p3 p4 (by decide) (by decide)
          obtain ⟨va5, vc5, rfl⟩ := p2.sl.isSl
          rw [show (ps ++ [(⟨4 * k1, q1⟩ : Pc)]).length = ps.length + 1 by simp] at p1 p2
          have hlt5 : β2.n < α5.n := Nat.lt_of_lt_of_le hlt4 p3.n
          have hb4' : ∀ B, (δ2.alloc B).get β2.n = _ := fun B => (AH.alloc_get_ne δ2 B (by omega)).trans hb4
          simp [hb4, hb4', p1, hb5, t7, e3]
          with_reducible repeat' apply And.intro
          all_goals
            refine agn_mk (m - 1) (by omega) (hJ1 _ _ _ ⟨m - 1, _, ps ++ [⟨4 * k1, q1⟩], rfl, by omega, by simp; omega, by simp; omega, ?_, by simpa using hlt5, T5.set hid4 (Nat.le_refl _) hb5 rfl (e := 68) (by decide) _, AH.set_get _ _ _, ow_set p2 (e' := 68) hb5 rfl (by decide) (flatK_apart _ _ _ _ _) _⟩)
            intro x hx
            rcases List.mem_append.1 hx with hx | hx
            · exact hpc x hx
            · simp at hx; subst hx; exact ⟨⟨k1, rfl, k10, by omega⟩, q10, by omega⟩
    have : m = 0 := by omega
    subst this
    simp [t7]
    refine wlp [8] 50 61 (by kernel_rfl) 5 (fun k t α' => ∃ (j : Nat) (hs : List Int) (cs : List Value), k = 5 - j ∧ j ≤ 5 ∧ t 50 = .int .i64 (j : Int) ∧ hs.length = 5 ∧ (∀ h ∈ hs, 0 ≤ h ∧ h ≤ 2) ∧ β2.n < α'.n ∧ TapeOn β2 id L α' ∧
        cs = [.string (nmB i), .int .i64 0, .int .i64 0, .bool (s0 == 0), .bool (s1 == 0), vq] ++ hs.map (.int .i64) ∧ α'.get β2.n = some ⟨cs, 68, true⟩ ∧ Ow β2.n 70 procK α' vq ps)
      ⟨0, [0, 0, 0, 0, 0], _, by omega, by omega, by simp, rfl, by simp, hlt2, T2, rfl, hb2, hq⟩ ?_
    clear hJ1
    rintro J2 hJ2 k t2 α4 ⟨j, hs, cs, rfl, hj, t50, hhl, hh, hlt2, T2, hcs, hb2, hq⟩
    have hcl : cs.length = 11 := by rw [hcs]; simp [hhl]
    by_cases cj : j < 5
    · have cj' : (j : Int) < 5 := by omega
      have e3 : IntKind.i64.wrap ((j : Int) + 1) = (j : Int) + 1 := w64 (by omega)
      have hTa : TapeOn β2 id L (α4.alloc ⟨[.int .i64 0, .int .i64 1, .int .i64 0, .int .i64 2, .int .i64 1], 3, true⟩) := T2.fr (Fr.alloc0 _ _)
      have hna := AH.alloc_n α4 ⟨[.int .i64 0, .int .i64 1, .int .i64 0, .int .i64 2, .int .i64 1], 3, true⟩
      have hga := AH.alloc_get α4 ⟨[.int .i64 0, .int .i64 1, .int .i64 0, .int .i64 2, .int .i64 1], 3, true⟩
      have hba := (AH.alloc_get_ne α4 ⟨[.int .i64 0, .int .i64 1, .int .i64 0, .int .i64 2, .int .i64 1], 3, true⟩ (show β2.n ≠ α4.n by omega)).trans hb2
      have hqa := hq.fr (Fr.alloc0 α4 ⟨[.int .i64 0, .int .i64 1, .int .i64 0, .int .i64 2, .int .i64 1], 3, true⟩)
      obtain ⟨a6, hT6⟩ := hTa.2
      simp [t50, cj']
      generalize α4.alloc _ = α5 at *
      refine (next_ok L a6 5 id _ hT6).mono fun r δ1 hr => ?_
      obtain ⟨k1, rfl, k10, k11, hon1⟩ := hr
      have k11 := k11 (by omega)
      have T3 := hTa.trans hon1
      have hb3 := (hon1.1.get β2.n (by omega) (by omega)).trans hba
      have hl3 := (hon1.1.get α4.n (by omega) (by have := T2.1.n; omega)).trans hga
      have hq3 := Ow.frx hqa hon1.1 hid4 flat_mono
      have hlt3 : β2.n < δ1.n := by have := hon1.1.n; omega
      obtain ⟨kk, rfl⟩ := Int.eq_ofNat_of_zero_le k10
      obtain ⟨cl, hcle, hcll, w, hw, hw1⟩ : ∃ cl : List Value, cl = [.int .i64 0, .int .i64 1, .int .i64 0, .int .i64 2, .int .i64 1] ∧ cl.length = 5 ∧ ∃ w, cl[kk]? = some (.int .i64 w) ∧ 0 ≤ w ∧ w ≤ 2 := by
        refine ⟨_, rfl, rfl, ?_⟩
        have : kk < 5 := by omega
        match kk, this with
        | 0, _ => exact ⟨0, rfl, by omega⟩
        | 1, _ => exact ⟨1, rfl, by omega⟩
        | 2, _ => exact ⟨0, rfl, by omega⟩
        | 3, _ => exact ⟨2, rfl, by omega⟩
        | 4, _ => exact ⟨1, rfl, by omega⟩
      rw [← hcle] at hl3
      have hlt : kk + 1 ≤ cl.length := by omega
      have hlt6 : 6 + j ≤ 10 := by omega
      have hix : aindexAddr Try.prog 66 (.pointer (some ⟨β2.n, 6, none⟩)) (.int .i64 (j : Int)) = some (.pointer (some ⟨β2.n, 6 + j, none⟩)) := by
        rw [aindexAddr_array Try.underlying66]; simp [cj']
      simp [hl3, hb3, hw, hlt, hlt6, k11, t50, e3, hcll, hcl, cj', hix]
      refine agn_mk (5 - (j + 1)) (by omega) (hJ2 _ _ _ ⟨j + 1, hs.set j w, _, rfl, by omega, by simp, by simpa using hhl, ?_, by simpa using hlt3, T3.set hid4 (Nat.le_refl _) hb3 rfl (e := 68) (by decide) _, ?_, AH.set_get _ _ _, ow_set hq3 (e' := 68) hb3 rfl (by decide) (flatK_apart _ _ _ _ _) _⟩)
      · intro h hx
        rcases List.mem_or_eq_of_mem_set hx with hx | rfl
        · exact hh h hx
        · exact hw1
      · rw [hcs, List.set_append_right _ _ (by simp), List.map_set]
        simp
    have : j = 5 := by omega
    subst this
    have C5 := C4.on T2
    have hbx := C5.hbx.2.2
    obtain ⟨h0, h1, h2, h3, h4, rfl⟩ : ∃ h0 h1 h2 h3 h4, hs = [h0, h1, h2, h3, h4] := by
      match hs, hhl with
      | [h0, h1, h2, h3, h4], _ => exact ⟨_, _, _, _, _, rfl⟩
    subst hcs
    obtain ⟨vqa, vqc, rfl⟩ := hq.sl.isSl
    obtain ⟨v', α5, p1, p2, p3, p4⟩ := C5.pushP (x := ⟨nmB i, 0, 0, s0 == 0, s1 == 0, ps, [h0, h1, h2, h3, h4]⟩) ⟨_, h0, h1, h2, h3, h4, rfl, rfl, hq.sl⟩ (by omega)
    simp at p1 hb2
    obtain ⟨va5, vc5, rfl⟩ := p4.par.sl.isSl
    simp [t50, hbx, hb2, p1, p2, t5, e1]
    simp only [List.length_append, List.length_cons, List.length_nil, Nat.zero_add] at p4
    refine agn_mk (n - (i + 1)) (by omega) (hJ0 _ _ _ ⟨i + 1, _, { c with parts := c.parts ++ [⟨nmB i, 0, 0, s0 == 0, s1 == 0, ps, [h0, h1, h2, h3, h4]⟩] }, rfl, by omega, by simp, by simp [hcp], hcc, hct, ?_, p4⟩)
    intro j hj
    by_cases hji : j < c.parts.length
    · simp only [List.getElem_append_left hji]
      exact hpt j hji
    · have : j = i := by simp at hj; omega
      subst this
      have e : (c.parts ++ [(⟨nmB j, 0, 0, s0 == 0, s1 == 0, ps, [h0, h1, h2, h3, h4]⟩ : Pt)])[j]'hj = ⟨nmB j, 0, 0, s0 == 0, s1 == 0, ps, [h0, h1, h2, h3, h4]⟩ := by
        rw [List.getElem_append_right (by omega)]; simp [hcp]
      simp only [e]
      exact ⟨⟨rfl, rfl, by simp only; omega, hpc, rfl, hh⟩, trivial⟩
  have : i = n := by omega
  subst this
  obtain ⟨a2, hT2⟩ := C2.tp
  simp [t5]
  refine (next_ok L a2 4 id _ hT2).mono fun r β1 hr => ?_
  obtain ⟨k0, rfl, k00, k01, hon⟩ := hr
  have k01 := k01 (by omega)
  have C3 := C2.on hon
  simp
  obtain ⟨k0, rfl⟩ := Int.eq_ofNat_of_zero_le k00
  clear hJ0 C2
  refine wcutb [9, 10, 11] 70 111 (by kernel_rfl) (fun t α' => ∃ (vc : Value) (c1 : Cf), c1.parts = c.parts ∧ c1.chans.length ≤ 3 ∧ c1.tabs = [] ∧ (∀ x ∈ c1.chans, cnOk c.parts.length x) ∧ Cfs id L (α.n + 1) α.n α α' vp vc (.slice none 0 0) c1) ?_ ?_
  · refine wlp [9, 10, 11] 70 111 (by kernel_rfl) k0 (fun k t α' => ∃ (vc : Value) (c1 : Cf), k ≤ 3 ∧ t 9 = .int .i64 (k : Int) ∧ c1.parts = c.parts ∧ c1.chans.length + k ≤ 3 ∧ c1.tabs = [] ∧ (∀ x ∈ c1.chans, cnOk c.parts.length x) ∧ Cfs id L (α.n + 1) α.n α α' vp vc (.slice none 0 0) c1)
      ⟨.slice none 0 0, c, by omega, by simp, rfl, by simp [hcc]; omega, hct, by simp [hcc], C3⟩ ?_
    rintro J0 hJ0 k t1 α3 ⟨vc, c1, hk3, t9, q1, q2, q3, q4, C4⟩
    have fin : ∃ (vc : Value) (c1 : Cf), c1.parts = c.parts ∧ c1.chans.length ≤ 3 ∧ c1.tabs = [] ∧ (∀ x ∈ c1.chans, cnOk c.parts.length x) ∧ Cfs id L (α.n + 1) α.n α α3 vp vc (.slice none 0 0) c1 := ⟨vc, c1, q1, by omega, q3, q4, C4⟩
    by_cases ck : 0 < k
    case neg =>
      have ck' : ¬ (0 : Int) < k := by omega
      simp [t9, ck, ck']
      exact fin
    have ck' : (0 : Int) < k := by omega
    by_cases cn : 1 < i
    case neg =>
      have cn' : ¬ (1 : Int) < i := by omega
      simp [t9, ck, ck', cn, cn']
      exact fin
    have cn' : (1 : Int) < i := by omega
    simp [t9, ck, ck', cn, cn']
    obtain ⟨a3, hT3⟩ := C4.tp
    refine (next_ok L a3 i id _ hT3).mono fun r β2 hr => ?_
    obtain ⟨f, rfl, f0, f1, hon⟩ := hr
    have f1 := f1 (by omega)
    have C5 := C4.on hon
    obtain ⟨a4, hT4⟩ := C5.tp
    have e3 : IntKind.i64.wrap (f + 1) = f + 1 := w64 (by omega)
    have e4 : IntKind.i64.wrap ((i : Int) - 1) = (i : Int) - 1 := w64 (by omega)
    simp
    refine wcutv [11] 81 99 (by kernel_rfl) (fun t α' => ∃ (x : Nat) (y : Cn), t 11 = .pointer (some ⟨x, 0, none⟩) ∧ (0 ≤ y.f ∧ y.f < i) ∧ (0 ≤ y.t ∧ y.t < i) ∧ y.f ≠ y.t ∧ y.late = 0 ∧ y.cap = 0 ∧ β2.n ≤ x ∧ x < α'.n ∧ α'.get x = some ⟨y.enc, 36, true⟩ ∧ TapeOn β2 id L α') ?_ ?_
    · refine wdraw (tks [0, 0, 0, 0, 0, 0, 2, 3, 6] (.pick (.cons 0 (.take 0 (.take 0 (.pick (.cons 0 (.take 0 (.pick (.cons 0 (.pick (.cons 0 (.take 0 (.pick (.cons 0 (.take 0 (.pick (.cons 0 (.pick (.cons 0 (.done) .nil)) .nil))) (.cons 2 (.take 0 (.take 0 (.pick (.cons 0 (.done) .nil)))) .nil)))) (.cons 4 (.pick (.cons 0 (.take 0 (.take 0 (.take 0 (.pick (.cons 0 (.done) .nil))))) .nil)) .nil))) (.cons 1 (.pick (.cons 0 (.take 0 (.pick (.cons 0 (.take 0 (.pick (.cons 0 (.pick (.cons 0 (.done) .nil)) .nil))) (.cons 2 (.take 0 (.take 0 (.pick (.cons 0 (.done) .nil)))) .nil)))) (.cons 4 (.pick (.cons 0 (.take 0 (.take 0 (.take 0 (.pick (.cons 0 (.done) .nil))))) .nil)) .nil))) (.cons 5 (.pick (.cons 0 (.pick (.cons 0 (.take 0 (.take 0 (.take 0 (.pick (.cons 0 (.done) .nil))))) .nil)) (.cons 1 (.pick (.cons 0 (.take 0 (.take 0 (.take 0 (.pick (.cons 0 (.done) .nil))))) .nil)) .nil))) .nil))))) (.cons 2 (.pick (.cons 0 (.take 0 (.pick (.cons 0 (.take 0 (.pick (.cons 0 (.take 0 (.pick (.cons 0 (.pick (.cons 0 (.done) .nil)) .nil))) (.cons 2 (.take 0 (.take 0 (.pick (.cons 0 (.done) .nil)))) .nil)))) (.cons 4 (.pick (.cons 0 (.take 0 (.take 0 (.take 0 (.pick (.cons 0 (.done) .nil))))) .nil)) .nil)))) (.cons 6 (.pick (.cons 0 (.take 0 (.pick (.cons 0 (.take 0 (.take 0 (.take 0 (.pick (.cons 0 (.done) .nil))))) .nil))) .nil)) .nil))) (.cons 7 (.pick (.cons 0 (.take 0 (.pick (.cons 0 (.pick (.cons 0 (.take 0 (.take 0 (.take 0 (.pick (.cons 0 (.done) .nil))))) .nil)) (.cons 1 (.pick (.cons 0 (.take 0 (.take 0 (.take 0 (.pick (.cons 0 (.done) .nil))))) .nil)) .nil)))) (.cons 2 (.pick (.cons 0 (.take 0 (.pick (.cons 0 (.take 0 (.take 0 (.take 0 (.pick (.cons 0 (.done) .nil))))) .nil))) .nil)) .nil))) .nil)))))) (.cons 5 (.pick (.cons 0 (.take 0 (.take 0 (.pick (.cons 0 (.take 0 (.pick (.cons 0 (.take 0 (.pick (.cons 0 (.take 0 (.pick (.cons 0 (.pick (.cons 0 (.done) .nil)) .nil))) (.cons 2 (.take 0 (.take 0 (.pick (.cons 0 (.done) .nil)))) .nil)))) (.cons 4 (.pick (.cons 0 (.take 0 (.take 0 (.take 0 (.pick (.cons 0 (.done) .nil))))) .nil)) .nil)))) (.cons 6 (.pick (.cons 0 (.take 0 (.pick (.cons 0 (.take 0 (.take 0 (.take 0 (.pick (.cons 0 (.done) .nil))))) .nil))) .nil)) .nil))))) (.cons 9 (.pick (.cons 0 (.take 0 (.take 0 (.pick (.cons 0 (.take 0 (.pick (.cons 0 (.take 0 (.take 0 (.take 0 (.pick (.cons 0 (.done) .nil))))) .nil))) .nil)))) .nil)) .nil))) (.cons 10 (.pick (.cons 0 (.take 0 (.take 0 (.pick (.cons 0 (.take 0 (.pick (.cons 0 (.pick (.cons 0 (.take 0 (.take 0 (.take 0 (.pick (.cons 0 (.done) .nil))))) .nil)) (.cons 1 (.pick (.cons 0 (.take 0 (.take 0 (.take 0 (.pick (.cons 0 (.done) .nil))))) .nil)) .nil)))) (.cons 2 (.pick (.cons 0 (.take 0 (.pick (.cons 0 (.take 0 (.take 0 (.take 0 (.pick (.cons 0 (.done) .nil))))) .nil))) .nil)) .nil))))) (.cons 5 (.pick (.cons 0 (.take 0 (.take 0 (.pick (.cons 0 (.take 0 (.pick (.cons 0 (.take 0 (.take 0 (.take 0 (.pick (.cons 0 (.done) .nil))))) .nil))) .nil)))) .nil)) .nil))) .nil))))) (by kernel_rfl) ?_
      simp [e3, e4]
      with_reducible repeat' apply And.intro
      all_goals
        have hfr := hT4
        refine (next_ok L a4 ((i : Int) - 1) id _ (by first | exact hT4 | exact hT4.fr (Fr.alloc0 _ _) | exact hT4.fr ((Fr.alloc0 _ _).up (Fr.alloc0 _ _)))).mono fun r δ hr => ?_
        obtain ⟨f2, rfl, f20, f21, hon2⟩ := hr
        have f21 := f21 (by omega)
        obtain ⟨a5, hT5⟩ := hon2.2
        have e5 : IntKind.i64.wrap (f + 1 + f2) = f + 1 + f2 := w64 (by omega)
        have hm1 := Int.tmod_lt_of_pos (f + 1 + f2) (show 0 < (i : Int) by omega)
        have hm2 : 0 ≤ (f + 1 + f2).tmod i := Int.tmod_nonneg _ (by omega)
        have hm3 := tmod_ne f0 f1 f20 f21
        generalize hmt : (f + 1 + f2).tmod i = mt at *
        have e6 : IntKind.i64.wrap (mt) = mt := w64 (by omega)
        have hi0 : ¬ i = 0 := by omega
        simp [e5, hmt, e6, hi0]
        with_reducible repeat' apply And.intro
        all_goals
          refine (next_ok L a5 2 id _ (by first | exact hT5 | exact hT5.fr (Fr.alloc0 _ _) | exact hT5.fr ((Fr.alloc0 _ _).up (Fr.alloc0 _ _)))).mono fun r δ2 hr => ?_
          obtain ⟨f3, rfl, f30, f31, hon3⟩ := hr
          obtain ⟨a6, hT6⟩ := hon3.2
          simp
          with_reducible repeat' apply And.intro
          all_goals
            refine (next_ok L a6 3 id _ (by first | exact hT6 | exact hT6.fr (Fr.alloc0 _ _) | exact hT6.fr ((Fr.alloc0 _ _).up (Fr.alloc0 _ _)))).mono fun r δ3 hr => ?_
            obtain ⟨f4, rfl, f40, f41, hon4⟩ := hr
            have f41 := f41 (by omega)
            have nβ : ¬ β2.n = id := by have := C5.n; omega
            have nδ : ¬ δ.n = id := by have := C5.n; have := hon2.1.n; (try simp only [AH.alloc_n] at this); omega
            have nδ2 : ¬ δ2.n = id := by have := C5.n; have := hon2.1.n; have := hon3.1.n; (try simp only [AH.alloc_n] at *); omega
            have nδ3 : ¬ δ3.n = id := by have := C5.n; have := hon2.1.n; have := hon3.1.n; have := hon4.1.n; (try simp only [AH.alloc_n] at *); omega
            obtain ⟨kk, rfl⟩ := Int.eq_ofNat_of_zero_le f40
            obtain ⟨w, hw⟩ : ∃ w, [Value.int .u32 4294967295, Value.int .u32 200, Value.int .u32 3][kk]? = some (.int .u32 w) := by
              have : kk < 3 := by omega
              match kk, this with
              | 0, _ => exact ⟨_, rfl⟩
              | 1, _ => exact ⟨_, rfl⟩
              | 2, _ => exact ⟨_, rfl⟩
            have G4 := hon4.1.get
            have G3 := hon3.1.get
            have G2 := hon2.1.get
            simp (config := { contextual := false }) only [AH.alloc_n, Nat.lt_succ_iff, ne_eq] at G4 G3 G2
            have N4 := hon4.1.n
            have N3 := hon3.1.n
            have N2 := hon2.1.n
            have N1 := C5.n
            (try simp only [AH.alloc_n] at N4)
            (try simp only [AH.alloc_n] at N3)
            (try simp only [AH.alloc_n] at N2)
            try simp [f41, hw]
            try (simp (disch := omega) only [G4, G3, G2, AH.alloc_get_ne, AH.alloc_get, alloc_alloc_get, alloc_get1]; simp [hw])
            try (simp (disch := omega) only [G4, G3, G2, AH.alloc_get_ne, AH.alloc_get, alloc_alloc_get, alloc_get1]; simp [hw])
            have hidb : id < β2.n := by have := C5.hid; have := C5.n; omega
            have T2 : TapeOn β2 id L δ := by first | exact hon2 | exact (hT4.on.fr (Fr.alloc0 _ _)).trans hon2 | exact (hT4.on.fr ((Fr.alloc0 _ _).up (Fr.alloc0 _ _))).trans hon2
            have T3 : TapeOn β2 id L δ2 := by first | exact T2.trans hon3 | exact (T2.fr (Fr.alloc0 _ _)).trans hon3 | exact (T2.fr ((Fr.alloc0 _ _).up (Fr.alloc0 _ _))).trans hon3
            have T4 : TapeOn β2 id L δ3 := by first | exact T3.trans hon4 | exact (T3.fr (Fr.alloc0 _ _)).trans hon4 | exact (T3.fr ((Fr.alloc0 _ _).up (Fr.alloc0 _ _))).trans hon4
            with_reducible repeat' apply And.intro
            all_goals
              refine ⟨⟨f, mt, f3 == 0, 0, w, 0⟩, ⟨f0, f1⟩, ⟨hm2, hm1⟩, hm3, rfl, rfl, by omega, ?_⟩
              first | refine ⟨rfl, ?_⟩ | refine ⟨by omega, rfl, ?_⟩
              first
                | exact T4.fr (Fr.alloc0 _ _)
                | exact T4.fr ((Fr.alloc0 _ _).up (Fr.alloc0 _ _))
                | exact (T4.fr ((Fr.alloc0 _ _).up (Fr.alloc0 _ _))).set hidb (by omega) (alloc_get1 _ _ _) (e := 36) rfl (by decide) _
                | exact (T4.fr ((Fr.alloc0 _ _).up (Fr.alloc0 _ _))).set hidb (by omega) (alloc_alloc_get _ _ _) (e := 36) rfl (by decide) _
                | exact T4.set hidb (by omega) (b := ⟨[.int .i64 0, .int .i64 0, .bool false, .int .i64 0, .int .u32 0, .int .i64 0], 36, true⟩) (e := 36) (by simp (disch := omega) only [G4, G3, G2, AH.alloc_get_ne, AH.alloc_get, alloc_alloc_get, alloc_get1]) rfl (by decide) _
                | exact (T4.fr (Fr.alloc0 _ _)).set hidb (by omega) (b := ⟨[.int .i64 0, .int .i64 0, .bool false, .int .i64 0, .int .u32 0, .int .i64 0], 36, true⟩) (e := 36) (by simp (disch := omega) only [G4, G3, G2, AH.alloc_get_ne, AH.alloc_get, alloc_alloc_get, alloc_get1]) rfl (by decide) _
    · rintro t2 α4 ⟨x, y, t11 : t2 11 = _, hy1, hy2, hy3, hy4, hy5, hx1, hx2, hx3, T⟩
      have C6 := C5.on T
      have hbx := C6.hbx.2.2
      have hidb : id < β2.n := by have := C5.hid; have := C5.n; omega
      have e9 : IntKind.i64.wrap ((k : Int) - 1) = (k : Int) - 1 := w64 (by omega)
      simp [t11, hx3, Cn.enc]
      refine ⟨fun hq => ?_, fun hq => ?_⟩
      · obtain ⟨a5, hT5⟩ := T.2
        refine (next_ok L a5 3 id _ hT5).mono fun r β hr => ?_
        obtain ⟨m, rfl, m0, m1, hon2⟩ := hr
        have m1 := m1 (by omega)
        have T' := T.trans hon2
        have hx4 := (hon2.1.get x hx2 (by omega)).trans hx3
        have hx5 : x < β.n := Nat.lt_of_lt_of_le hx2 hon2.1.n
        have T3 := T'.set hidb hx1 hx4 rfl (e := 36) (by decide) (some ⟨Cn.enc { y with cap := 1 + m }, 36, true⟩)
        have C7 := C5.on T3
        have hb7 := C7.hbx.2.2
        obtain ⟨v', α5, p1, p2, p3, p4⟩ := C7.pushC { y with cap := 1 + m } (by omega)
        have hg7 : (β.set x (some ⟨Cn.enc { y with cap := 1 + m }, 36, true⟩)).get x = _ := AH.set_get _ _ _
        have hn7 : (β.set x (some ⟨Cn.enc { y with cap := 1 + m }, 36, true⟩)).n = β.n := rfl
        have e5 : IntKind.i64.wrap (1 + m) = 1 + m := w64 (by omega)
        simp only [Cn.enc] at hg7 hn7 hb7 p1 p2 p3 p4
        simp [e5, t11, hx4, Cn.enc]
        generalize β.set x _ = β' at *
        obtain ⟨va, vcap, rfl⟩ := p4.cha.sl.isSl
        simp at p1
        simp [t11, hb7, hg7, p1, p2, p3, t9, e9]
        refine agn_mk (k - 1) (by omega) (hJ0 _ _ _ ⟨.slice va (c1.chans.length + 1) vcap, { c1 with chans := c1.chans ++ [{ y with cap := 1 + m }] }, by omega, by simp; omega, q1, by simp; omega, q3, fun z hz => ?_, ?_⟩)
        · rcases List.mem_append.1 hz with hz | hz
          · exact q4 z hz
          · simp at hz; subst hz
            exact ⟨by simp only [hcp]; exact hy1, by simp only [hcp]; exact hy2, hy3, hy4, by simp only [hq, if_true]; omega⟩
        · simpa using p4
      · have hb7 := C6.hbx.2.2
        obtain ⟨v', α5, p1, p2, p3, p4⟩ := C6.pushC y (by omega)
        simp only [Cn.enc] at hb7 p1 p2 p3 p4
        obtain ⟨va, vcap, rfl⟩ := p4.cha.sl.isSl
        simp at p1
        simp [hb7, hx3, Cn.enc, t11, p1, p2, p3, t9, e9]
        refine agn_mk (k - 1) (by omega) (hJ0 _ _ _ ⟨.slice va (c1.chans.length + 1) vcap, { c1 with chans := c1.chans ++ [y] }, by omega, by simp; omega, q1, by simp; omega, q3, fun z hz => ?_, ?_⟩)
        · rcases List.mem_append.1 hz with hz | hz
          · exact q4 z hz
          · simp at hz; subst hz
            exact ⟨by simp only [hcp]; exact hy1, by simp only [hcp]; exact hy2, hy3, hy4, by simp only [hq]; exact hy5⟩
        · simpa using p4
  rintro t2 α4 ⟨vc, c1, q1, q2, q3, q4, C4⟩
  obtain ⟨a5, hT5⟩ := C4.tp
  simp
  refine (next_ok L a5 2 id _ hT5).mono fun r β2 hr => ?_
  obtain ⟨k2, rfl, k20, k21, hon⟩ := hr
  have k21 := k21 (by omega)
  have C5 := C4.on hon
  simp
  refine wlp [12] 114 125 (by kernel_rfl) (k2.toNat + 1) (fun k t α' => ∃ (vt : Value) (c2 : Cf), k ≤ 2 ∧ t 12 = .int .i64 ((k : Int) - 1) ∧ c2.parts = c1.parts ∧ c2.chans = c1.chans ∧ c2.tabs.length + k = k2.toNat + 1 ∧ (∀ t ∈ c2.tabs, frmM i t) ∧ Cfs id L (α.n + 1) α.n α α' vp vc vt c2)
    ⟨.slice none 0 0, c1, by omega, by simp; omega, rfl, rfl, by simp [q3], by simp [q3], C5⟩ ?_
  rintro J1 hJ1 k t3 α5 ⟨vt, c2, hk2, t12, r1, r2, r3, r4, C6⟩
  have hbx := C6.hbx.2.2
  obtain ⟨a6, hT6⟩ := C6.tp
  by_cases ck : 1 ≤ k
  · have ck' : (1 : Int) ≤ k := by omega
    have e3 : IntKind.i64.wrap ((k : Int) - 1 - 1) = (k : Int) - 1 - 1 := w64 (by omega)
    simp [t12, ck']
    refine wdraw (.take 0 (.take 1 (.take 1 (.pick (.cons 0 (.pick (.cons 0 (.pick (.cons 0 (.pick (.cons 0 (.take 0 (.pick (.cons 0 (.done) .nil))) .nil)) .nil)) .nil)) (.cons 1 (.pick (.cons 0 (.pick (.cons 0 (.pick (.cons 0 (.take 0 (.pick (.cons 0 (.done) .nil))) .nil)) .nil)) (.cons 1 (.take 0 (.pick (.cons 0 (.take 0 (.pick (.cons 0 (.done) .nil))) .nil))) .nil))) .nil)))))) (by kernel_rfl) ?_
    simp [hbx]
    with_reducible repeat' apply And.intro
    all_goals
      refine (frame_ok L id i a6 _ hT6).mono fun v γ hr => ?_
      obtain ⟨xs, hx, hfm, hon⟩ := hr
      have C7 := C6.on hon
      obtain ⟨va, vb, rfl⟩ := hx.sl.isSl
      obtain ⟨v', α6, p1, p2, p3, p4⟩ := C7.pushT hx.sl (by omega)
      obtain ⟨vx, vy, rfl⟩ := p4.tab.sl.isSl
      have hbx7 := C7.hbx.2.2
      have hbx7' : ∀ B, (γ.alloc B).get (α.n + 1) = _ := fun B => (AH.alloc_get_ne γ B (by have := C7.hbx.2.1; omega)).trans hbx7
      simp only [List.length_append, List.length_cons, List.length_nil, Nat.zero_add] at p1 p4
      simp [hbx7, hbx7', p1, p2, t12, e3]
      with_reducible repeat' apply And.intro
      all_goals
       refine agn_mk (k - 1) (by omega) (hJ1 _ _ _ ⟨_, { c2 with tabs := c2.tabs ++ [xs] }, by omega, by simp; omega, r1, r2, by simp; omega, ?_, p4⟩)
       intro t ht
       rcases List.mem_append.1 ht with ht | ht
       · exact r4 t ht
       · simp at ht; subst ht; exact hfm
  have : k = 0 := by omega
  subst this
  simp [t12, hbx]
  have hk2' : k2.toNat ≤ 1 := by omega
  have hnm : ∀ p ∈ c2.parts, p.name.size ≤ 1000000000000 := fun p hp => by
    rw [r1, q1] at hp
    obtain ⟨j, hj, rfl⟩ := List.getElem_of_mem hp
    rw [(hpt j hj).2]
    show 2 ≤ _
    omega
  refine (asks_ok L id (α.n + 2) a6 α5 vp vc vt c2 hT6 (by omega) C6.n C6.par C6.cha C6.tab.sl (by omega) (by omega) (fun t ht => (r4 t ht).len.2) (by rw [r1, q1]; omega) (by rw [r2]; omega) hnm (fun x hx => by rw [r2] at hx; exact (q4 x hx).late)).mono fun r γ hr => ?_
  obtain ⟨rfl, c3, K, hE, hn, hg, ⟨a7, hT7⟩, g1, g2, g3⟩ := hr
  have hrx := (hg α.n (by omega) (by omega)).trans C6.hrx.2.2
  have cv1 := g1.sl.isCell
  have cv2 := g2.sl.isCell
  have cv3 := g3.isCell
  simp [hrx, cv1, cv2, cv3]
  have hc2 : c2.parts = c.parts := r1.trans q1
  have hpl : c2.parts.length = i := by rw [hc2]; exact hcp
  refine ⟨c2, ⟨by omega, fun j h => ?_, fun p hp => ?_, by rw [r2]; exact q2, fun x hx => ?_, by omega, fun t ht => by rw [hpl]; exact r4 t ht⟩, c3, K, hE, ⟨vp, vc, vt, rfl, g1.sl.set (e' := 26) hrx rfl (by decide) (prtK_apart (by decide)) _, g2.sl.set (e' := 26) hrx rfl (by decide) (flatK_apart _ _ _ _ _) _, g3.set (e' := 26) hrx rfl (by decide) (sliceK_apart (by decide) (flatK_apart _ _ _ _ _)) _⟩, ?_, a7, hT7.set (e := 26) hrx rfl (by decide) (by omega) _⟩
  · have := hpt j (by rw [← hc2]; exact h)
    simp only [hc2]
    exact this.2
  · rw [hc2] at hp
    obtain ⟨j, hj, rfl⟩ := List.getElem_of_mem hp
    exact (hpt j hj).1
  · rw [r2] at hx
    rw [hc2]
    exact q4 x hx
  · refine ⟨by have := C6.n; simp only [AH.set_n]; omega, fun j hj hne => ?_⟩
    rw [AH.set_get_ne _ _ (by omega), hg j (by omega) hne]
    exact C6.fr j hj hne
end Go.Proofs.Ytggkeldedennfaa

set_option linter.unusedVariables false
set_option linter.unusedSimpArgs false
namespace Go.Proofs.Ytggkeldedennfaa
open Go Go.RowKit Go.Lay Go.Nod

set_option maxRecDepth 100000 in
theorem tape7_ok (k : Int) (α : AH) (hk : 0 ≤ k) (hk' : k ≤ 100) :
    NCalls Try.prog 9 [.int .i64 k] α (fun v α' => ∃ L, L.length = 400 ∧ Ow α.n 3 (intK .i64) α' v L ∧ Fr α.n α α') := by
  refine ncw mixd Try.func9 rfl Try.results9 (by kernel_rfl) ?_
  simp
  refine wlp [] 3 23 (by kernel_rfl) 400 (fun n t α' => ∃ (i : Nat) (L : List Int), n = 400 - i ∧ i ≤ 400 ∧ L.length = i ∧ t 4 = .int .i64 (i : Int) ∧ Ow α.n 3 (intK .i64) α' (t 3) L ∧ Fr α.n α α')
    ⟨0, [], rfl, by omega, rfl, by simp, by simp; exact .nil, .refl _ _⟩ ?_
  rintro J hJ n t α' ⟨i, L, rfl, hi, hL, t4, ho, hf⟩
  by_cases c : i < 400
  · have c' : (i : Int) < 400 := by omega
    have q1 : (i : Int) * i ≤ 400 * 400 := Int.mul_le_mul (by omega) (by omega) (by omega) (by omega)
    have q0 : 0 ≤ (i : Int) * i := Int.mul_nonneg (by omega) (by omega)
    have q2 : (i : Int) * k ≤ 400 * 100 := Int.mul_le_mul (by omega) (by omega) (by omega) (by omega)
    have q3 : 0 ≤ (i : Int) * k := Int.mul_nonneg (by omega) (by omega)
    have e1 : IntKind.i64.wrap ((i : Int) * i) = (i : Int) * i := w64 (by omega)
    have e2 : IntKind.i64.wrap ((i : Int) * i * 7) = (i : Int) * i * 7 := w64 (by omega)
    have e3 : IntKind.i64.wrap (k * 41) = k * 41 := w64 (by omega)
    have e4 : IntKind.i64.wrap ((i : Int) * i * 7 + k * 41) = (i : Int) * i * 7 + k * 41 := w64 (by omega)
    have e5 : IntKind.i64.wrap ((i : Int) * k) = (i : Int) * k := w64 (by omega)
    have e6 : IntKind.i64.wrap ((i : Int) * i * 7 + k * 41 + (i : Int) * k) = (i : Int) * i * 7 + k * 41 + (i : Int) * k := w64 (by omega)
    have e8 : IntKind.i64.wrap ((i : Int) + 1) = (i : Int) + 1 := w64 (by omega)
    generalize hq : (i : Int) * i * 7 + k * 41 + (i : Int) * k = q at *
    have m1 : 0 ≤ q.tmod 211 := Int.tmod_nonneg _ (by omega)
    have m2 : q.tmod 211 < 211 := Int.tmod_lt_of_pos q (by omega)
    have e7 : IntKind.i64.wrap (q.tmod 211) = q.tmod 211 := w64 (by omega)
    obtain ⟨v', α2, p1, p2, p3, -⟩ := ho.push el28 hf.n (x := q.tmod 211) (c := [.int .i64 (q.tmod 211)]) rfl (intK_apart _ _) (by omega) 0
    simp [t4, c', e1, e2, e3, e4, e5, e6, e7, e8, hq, p1]
    exact agn_mk (400 - (i + 1)) (by omega) (hJ _ _ _ ⟨i + 1, L ++ [q.tmod 211], rfl, by omega, by simp [hL], by simp, by simp; exact p2, hf.trans p3⟩)
  · have : i = 400 := by omega
    subst this
    simp [t4]
    exact ⟨L, hL, ho, hf⟩
end Go.Proofs.Ytggkeldedennfaa

set_option linter.unusedVariables false
set_option linter.unusedSimpArgs false
namespace Go.Proofs.Ytggkeldedennfaa
open Go Go.RowKit Go.Lay Go.Nod

theorem matE {N M : Nat} {n : Nat} {f : Nat → Nat → Bool} {α : AH} {v u : Value} (h : MX N α v n n f) (k : MX M α u n n f) (hl : n ≤ 1000) : NCalls Try.prog 12 [v, u] α (fun r α' => r = .bool true ∧ α' = α) := by
  refine (matrix_ok _ _ _ _ _ h.sl k.sl (by rw [rmat_len]; omega) (fun x hx => by rw [rmat_all x hx]; omega)).mono fun r β hr => ?_
  obtain ⟨rfl, rfl⟩ := hr
  simp

set_option maxRecDepth 100000 in
set_option maxHeartbeats 1000000 in
theorem same7_ok (vp vc vt : Value) (c : Cf) (a b : Int) (α : AH) (h : IsCfg α (.agg #[vp, vc, vt]) c) (hl : c.parts.length ≤ 1000) (hlc : c.chans.length ≤ 1000000000) :
    NCalls Try.prog 11 [.agg #[vp, vc, vt], .int .i64 a, .int .i64 b] α (fun r α' => r = .bool true ∧ Fr α.n α α') := by
  have h0 := h
  obtain ⟨_, _, _, he, h1, h2, h3⟩ := h
  cases he
  have hF := Fr.alloc0 α ⟨[vp, vc, vt], 26, true⟩
  have hg := AH.alloc_get α ⟨[vp, vc, vt], 26, true⟩
  have hn := AH.alloc_n α ⟨[vp, vc, vt], 26, true⟩
  have hc := h0.fr hF
  refine ncw mixd Try.func11 rfl Try.results11 (by kernel_rfl) ?_
  simp [h1.isCell, h2.isCell, h3.isCell]
  generalize α.alloc _ = α1 at *
  have hlt : α.n < α1.n := by omega
  have zz : ∀ β, Fr α1.n α1 β → Zm (fun i => i < α1.n) α1 β := fun β h => .fr h
  refine wdrawz (fun i => i < α1.n) [1, 3, 4, 7, 9, 10, 16, 20, 26, 29, 30, 34, 35] (zks [(0, true), (1, true)] (.pick (.cons 0 true ((.pick (.cons 0 true ((.pick (.cons 0 true (zks [(0, false), (0, true), (1, true)] (.pick (.cons 0 true ((.pick (.cons 0 true ((.pick (.cons 0 true (zks [(0, false), (0, false), (0, true), (0, false), (0, false), (2, false), (2, false), (1, true)] (.pick (.cons 0 true ((.pick (.cons 0 true (zks [(0, false), (0, false), (0, false), (0, true), (0, false), (2, false), (1, true)] (.pick (.cons 0 true ((.pick (.cons 0 true ((.pick (.cons 0 true (zks [(0, false), (0, false), (0, true), (2, true)] (.pick (.cons 0 true ((.pick (.cons 0 true ((.pick (.cons 0 false ((.pick (.cons 0 false ((.pick (.cons 0 false (zks [(0, false), (0, false)] .done) .nil))) .nil))) .nil))) .nil))) .nil))) .nil))) .nil))) .nil))) .nil))) .nil))) .nil))) .nil))) .nil))) .nil))) .nil))) .nil))) (by kernel_rfl) ?_
  simp [hlt, hg]
  refine (depends_ok vp vc vt c _ hc hl hlc).mono fun d β hr => ?_
  obtain ⟨m1, f1⟩ := hr
  simp [zz _ f1, hlt, hg]
  refine (rdepends_ok vp vc vt c _ (hc.fr f1) hl hlc).mono fun d' β hr => ?_
  obtain ⟨m2, f2⟩ := hr
  have F2 := f1.up f2
  simp [zz _ F2, hlt, hg]
  refine (matE (m1.fr f2) m2 hl).mono fun r β hr => ?_
  obtain ⟨rfl, rfl⟩ := hr
  simp [zz _ F2, hlt, hg]
  clear m1 m2
  refine (sways_ok vp vc vt c _ (hc.fr F2) hl hlc).mono fun d β hr => ?_
  obtain ⟨m1, f3⟩ := hr
  have F3 := F2.up f3
  simp [zz _ F3, hlt, hg]
  refine (rsways_ok vp vc vt c _ (hc.fr F3) hl hlc).mono fun d' β hr => ?_
  obtain ⟨m2, f4⟩ := hr
  have F4 := F3.up f4
  simp [zz _ F4, hlt, hg]
  refine (matE (m1.fr f4) m2 hl).mono fun r β hr => ?_
  obtain ⟨rfl, rfl⟩ := hr
  simp [zz _ F4, hlt, hg]
  clear m1 m2
  refine (free_ok vp vc vt c _ _ _ (hc.fr F4) hl hlc).mono fun d β hr => ?_
  obtain ⟨rfl, f5⟩ := hr
  have F5 := F4.up f5
  simp [zz _ F5, hlt, hg]
  refine (rfree_ok vp vc vt c _ _ _ (hc.fr F5) hl hlc).mono fun d β hr => ?_
  obtain ⟨rfl, f6⟩ := hr
  have F6 := F5.up f6
  simp [zz _ F6, hlt, hg]
  refine (reach_ok vp vc vt c _ _ (hc.fr F6) hl hlc).mono fun d β hr => ?_
  obtain ⟨o1, f7⟩ := hr
  have F7 := F6.up f7
  simp [zz _ F7, hlt, hg]
  refine (rreach_ok vp vc vt c _ _ (hc.fr F7) hl hlc).mono fun d' β hr => ?_
  obtain ⟨o2, f8⟩ := hr
  have F8 := F7.up f8
  simp [zz _ F8, hlt, hg]
  refine (bookSame_ok _ _ _ _ _ (o1.fr f8).sl o2.sl ?_).mono fun r β hr => ?_
  · have := rcL_len c a c.parts.length
    unfold rcM; split
    · omega
    · simp
  obtain ⟨rfl, rfl⟩ := hr
  simp [zz _ F8, hlt, hg]
  refine (rsways_ok vp vc vt c _ (hc.fr F8) hl hlc).mono fun d β hr => ?_
  obtain ⟨m1, f9⟩ := hr
  have F9 := F8.up f9
  simp [zz _ F9, hlt, hg]
  refine (closureM_ok m1 hl).mono fun d β hr => ?_
  obtain ⟨m1, f10⟩ := hr
  have F10 := F9.up f10
  simp [zz _ F10, hlt, hg]
  refine (rsways_ok vp vc vt c _ (hc.fr F10) hl hlc).mono fun d β hr => ?_
  obtain ⟨m2, f11⟩ := hr
  have F11 := F10.up f11
  simp [zz _ F11, hlt, hg]
  refine (rclosureM_ok m2 hl).mono fun d β hr => ?_
  obtain ⟨m2, f12⟩ := hr
  have F12 := F11.up f12
  simp [zz _ F12, hlt, hg]
  refine (matE ((m1.fr f11).fr f12) m2 hl).mono fun r β hr => ?_
  obtain ⟨rfl, rfl⟩ := hr
  simp [hF.up F12]

theorem gA (α : AH) (b : ABlk) (i : Nat) : (α.alloc b).get i = if i = α.n then some b else α.get i := rfl
theorem gS (α : AH) (b : Option ABlk) (i j : Nat) : (α.set j b).get i = if i = j then b else α.get i := rfl
theorem sA {α : AH} {b c : ABlk} {i : Nat} (h : i = α.n) : (α.alloc b).set i (some c) = α.alloc c := by subst h; exact AH.alloc_set _ _ _
/-- a partition that is nothing -/
def pt0 : Pt := ⟨⟨#[]⟩, 0, 0, false, false, [], [0, 0, 0, 0, 0]⟩
def cf7 : Cf := ⟨[pt0, pt0, pt0], [⟨0, 1, false, 0, 0, 0⟩, ⟨1, 2, true, 0, 0, 0⟩], []⟩
theorem cf7_s : rmat 3 3 (swM cf7) = [[true, true, false], [false, true, true], [false, true, true]] := by rfl
theorem cf7_d : rmat 3 3 (depM cf7) = [[true, true, false], [true, true, true], [false, true, true]] := by rfl
def pc0 : List Value := [.string ⟨#[]⟩, .int .i64 0, .int .i64 0, .bool false, .bool false, .slice none 0 0, .int .i64 0, .int .i64 0, .int .i64 0, .int .i64 0, .int .i64 0]
def v7 (α : AH) : Value := .agg #[.slice (some ⟨α.n, 0, none⟩) 3 0, .slice (some ⟨α.n + 1, 0, none⟩) 2 0, .slice none 0 0]
def M7 (α : AH) : AH := ((((α.alloc ⟨pc0 ++ pc0 ++ pc0, 68, true⟩).alloc ⟨[.int .i64 0, .int .i64 1, .bool false, .int .i64 0, .int .u32 0, .int .i64 0, .int .i64 1, .int .i64 2, .bool true, .int .i64 0, .int .u32 0, .int .i64 0], 36, true⟩).alloc
    ⟨[.slice none 0 0, .slice none 0 0, .slice none 0 0], 26, true⟩).set (α.n + 1 + 1) (some ⟨[.slice (some ⟨α.n, 0, none⟩) 3 0, .slice (some ⟨α.n + 1, 0, none⟩) 2 0, .slice none 0 0], 26, true⟩))
theorem M7_facts (α : AH) : IsCfg (M7 α) (v7 α) cf7 ∧ Fr α.n α (M7 α) ∧ (M7 α).n = α.n + 3 ∧ (M7 α).get (α.n + 1 + 1) = some ⟨[.slice (some ⟨α.n, 0, none⟩) 3 0, .slice (some ⟨α.n + 1, 0, none⟩) 2 0, .slice none 0 0], 26, true⟩ := by
  refine ⟨⟨_, _, _, rfl, ?_, ?_, .inl ⟨rfl, rfl⟩⟩, ?_, rfl, by simp [M7, gS]⟩
  · refine .inr ⟨α.n, 0, 0, ⟨pc0 ++ pc0 ++ pc0, 68, true⟩, rfl, by simp [M7]; omega, by simp [M7, gA, gS, show ¬ α.n = α.n + 1 + 1 by omega], rfl, by decide, fun i hi => ?_⟩
    have : prtR (M7 α) pt0 pc0 := ⟨_, 0, 0, 0, 0, 0, rfl, rfl, .inl ⟨rfl, rfl⟩⟩
    match i, hi with
    | 0, _ => exact this
    | 1, _ => exact this
    | 2, _ => exact this
  · refine .inr ⟨α.n + 1, 0, 0, _, rfl, by simp [M7], by simp [M7, gA, gS]; rfl, rfl, by decide, fun i hi => ?_⟩
    match i, hi with
    | 0, _ => rfl
    | 1, _ => rfl
  · refine ⟨by simp [M7]; omega, fun i hi => ?_⟩
    have z1 : ¬ i = α.n := by omega
    have z2 : ¬ i = α.n + 1 := by omega
    have z3 : ¬ i = α.n + 1 + 1 := by omega
    simp [M7, gA, gS, z1, z2, z3]
set_option maxRecDepth 100000 in
set_option maxHeartbeats 1000000 in
theorem known7_ok (α : AH) : NCalls Try.prog 14 [] α (fun r α' => r = .bool true ∧ Fr α.n α α') := by
  obtain ⟨hc, hF, hn, hg⟩ := M7_facts α
  refine ncw mixd Try.func14 rfl Try.results14 (by kernel_rfl) ?_
  simp [amake, rep, gA, sA]
  change NCalls _ _ [v7 α] (M7 α) _
  generalize M7 α = α1 at *
  refine (sways_ok _ _ _ cf7 _ hc (by decide) (by decide)).mono fun d β hr => ?_
  obtain ⟨m1, f1⟩ := hr
  have rb : ∀ γ, Fr α1.n α1 γ → γ.get (α.n + 1 + 1) = _ := fun γ h => (h.get _ (by omega)).trans hg
  simp [rb _ f1]
  refine (depends_ok _ _ _ cf7 _ (hc.fr f1) (by decide) (by decide)).mono fun d β hr => ?_
  obtain ⟨m2, f2⟩ := hr
  have F2 := f1.up f2
  replace m1 := m1.fr f2
  have ma : ∀ {N : Nat} {β : AH} {v : Value} {r n : Nat} {f : Nat → Nat → Bool}, MX N β v r n f → ∀ a b, a < r → b < n → ∃ o c ro i ci rb, v = .slice (some ⟨o, 0, none⟩) r c ∧ β.get o = some ⟨ro, 40, true⟩ ∧ ro[a]? = some (.slice (some ⟨i, 0, none⟩) n ci) ∧ β.get i = some ⟨rb, 4, true⟩ ∧ rb[b]? = some (.bool (f a b)) := fun h a b ha hb => by
    obtain ⟨o, c, ro, i, ci, rb, h1, h2, h3, h4, h5, h6, _⟩ := h.at ha hb
    exact ⟨o, c, ro, i, ci, rb, h1, h2, h3, h4, h6⟩
  obtain ⟨o1, c1, ro1, i1, ci1, rb1, rfl, s1, s2, s3, s4⟩ := ma m1 0 1 (by decide) (by decide)
  obtain ⟨o2, c2, ro2, i2, ci2, rb2, he, s5, s6, s7, s8⟩ := ma m1 1 0 (by decide) (by decide)
  cases he
  cases s1.symm.trans s5
  obtain ⟨o2, c2, ro2, i3, ci3, rb3, he, s5, s9, s10, s11⟩ := ma m1 2 1 (by decide) (by decide)
  cases he
  cases s1.symm.trans s5
  obtain ⟨p1, d1, qo1, j1, cj1, qb1, rfl, t1, t2, t3, t4⟩ := ma m2 1 0 (by decide) (by decide)
  obtain ⟨o2, c2, ro2, j2, cj2, qb2, he, t5, t6, t7, t8⟩ := ma m2 0 2 (by decide) (by decide)
  cases he
  cases t1.symm.trans t5
  rw [show swM cf7 0 1 = true by rfl] at s4
  rw [show swM cf7 1 0 = false by rfl] at s8
  rw [show swM cf7 2 1 = true by rfl] at s11
  rw [show depM cf7 1 0 = true by rfl] at t4
  rw [show depM cf7 0 2 = false by rfl] at t8
  have e3 : cf7.parts.length = 3 := rfl
  simp [rb _ F2, e3, s1, s2, s3, s4, s6, s7, s8, s9, s10, s11, t1, t2, t3, t4, t6, t7, t8]
  refine (free_ok _ _ _ cf7 _ _ _ (hc.fr F2) (by decide) (by decide)).mono fun d β hr => ?_
  obtain ⟨rfl, f3⟩ := hr
  have F3 := F2.up f3
  rw [show frM cf7 (-1) 0 = true by rfl]
  simp [rb _ F3]
  refine (free_ok _ _ _ cf7 _ _ _ (hc.fr F3) (by decide) (by decide)).mono fun d β hr => ?_
  obtain ⟨rfl, f4⟩ := hr
  have F4 := F3.up f4
  rw [show frM cf7 0 2 = true by rfl]
  simp [rb _ F4]
  refine (free_ok _ _ _ cf7 _ _ _ (hc.fr F4) (by decide) (by decide)).mono fun d β hr => ?_
  obtain ⟨rfl, f5⟩ := hr
  have F5 := F4.up f5
  rw [show frM cf7 0 9 = false by rfl]
  simp [rb _ F5]
  refine (closure_ok [] _ _ (.inl ⟨rfl, rfl⟩) (by decide)).mono fun d β hr => ?_
  obtain ⟨m3, _, f6⟩ := hr
  have F6 := F5.up f6
  obtain ⟨_, _, rfl⟩ := (m3 (by simp)).isSl
  simp [rb _ F6]
  refine (reach_ok _ _ _ cf7 _ _ (hc.fr F6) (by decide) (by decide)).mono fun d β hr => ?_
  obtain ⟨o1, f7⟩ := hr
  have F7 := F6.up f7
  rw [show rcM cf7 1 = [0, 1, 2] by rfl] at o1
  simp [rep]
  have f8 := Fr.alloc0 β ⟨[.int .i64 0, .int .i64 1, .int .i64 2], 3, true⟩
  have F8 := F7.up f8
  refine (bookSame_ok [0, 1, 2] [0, 1, 2] _ _ _ (o1.fr f8).sl (.inr ⟨_, 0, 0, _, rfl, by simp, AH.alloc_get _ _, rfl, by decide, fun i hi => ?_⟩) (by decide)).mono fun r γ hr => ?_
  · match i, hi with
    | 0, _ => rfl
    | 1, _ => rfl
    | 2, _ => rfl
  obtain ⟨rfl, rfl⟩ := hr
  simp [rb _ F8]
  refine (reach_ok _ _ _ cf7 _ _ (hc.fr F8) (by decide) (by decide)).mono fun d β hr => ?_
  obtain ⟨o1, f9⟩ := hr
  have F9 := F8.up f9
  rw [show rcM cf7 0 = [0] by rfl] at o1
  simp [rep]
  have f10 := Fr.alloc0 β ⟨[.int .i64 0], 3, true⟩
  have F10 := F9.up f10
  refine (bookSame_ok [0] [0] _ _ _ (o1.fr f10).sl (.inr ⟨_, 0, 0, _, rfl, by simp, AH.alloc_get _ _, rfl, by decide, fun i hi => ?_⟩) (by decide)).mono fun r γ hr => ?_
  · match i, hi with
    | 0, _ => rfl
  obtain ⟨rfl, rfl⟩ := hr
  simp [rb _ F10]
  refine (reach_ok _ _ _ cf7 _ _ (hc.fr F10) (by decide) (by decide)).mono fun d β hr => ?_
  obtain ⟨o1, f11⟩ := hr
  have F11 := F10.up f11
  rw [show rcM cf7 5 = [] by rfl] at o1
  obtain ⟨_, _, rfl⟩ := o1.sl.isSl
  simp
  exact hF.up F11
end Go.Proofs.Ytggkeldedennfaa

set_option linter.unusedVariables false
set_option linter.unusedSimpArgs false
namespace Go.Proofs.Ytggkeldedennfaa
open Go Go.RowKit Go.Lay Go.Nod

theorem tape_mk {α : AH} {v : Value} {L : List Int} (h : Ints α v L) (hl : L.length ≤ 1000000000000000) : IsTape (α.alloc ⟨[v, .int .i64 0], 31, true⟩) α.n L 0 :=
  ⟨hl, by omega, by omega, by simp, v, AH.alloc_get _ _, h.fr (Fr.alloc0 _ _)⟩
theorem TapeOn.out {β β' : AH} {B : ABlk} {L : List Int} (h : TapeOn (β.alloc B) β.n L β') : Fr β.n β β' :=
  ⟨by have := h.1.n; simp at this; omega, fun i hi => (h.1.get i (by simp; omega) (by omega)).trans (AH.alloc_get_ne _ _ (by omega))⟩
theorem mem_map_same {τ σ : Type} {f : τ → σ} {l l' : List τ} (h : l.map f = l'.map f) {x : τ} (hx : x ∈ l) : ∃ y ∈ l', f y = f x := by
  have : f x ∈ l'.map f := by rw [← h]; exact List.mem_map_of_mem hx
  obtain ⟨y, hy, e⟩ := List.mem_map.1 this
  exact ⟨y, hy, e⟩
structure Cfg7 (c : Cf) : Prop where
  n1 : 1 ≤ c.parts.length
  n4 : c.parts.length ≤ 4
  cl : c.chans.length ≤ 3
  ch : ∀ x ∈ c.chans, inr c.parts.length x ∧ x.f ≠ x.t
theorem Cfg7.mk' {c c' : Cf} (h : CfgOk c) (a : Asked0 c c') : Cfg7 c' := by
  have hp := a.pl
  refine ⟨by rw [hp]; exact h.n1.1, by rw [hp]; exact h.n1.2, by rw [a.cl]; exact h.cl, fun x hx => ?_⟩
  obtain ⟨y, hy, e⟩ := mem_map_same a.chans hx
  have k := h.ch y hy
  have e1 : y.f = x.f := by have := congrArg Cn.f e; simpa [bareC] using this
  have e2 : y.t = x.t := by have := congrArg Cn.t e; simpa [bareC] using this
  rw [hp, ← e1, ← e2]
  refine ⟨?_, k.ne⟩
  unfold inr
  rw [← e1, ← e2]
  exact ⟨k.f, k.t⟩
def cf8 : Cf := ⟨[pt0, pt0], [⟨-1, 1, false, 0, 0, 0⟩, ⟨5, 0, false, 0, 0, 0⟩, ⟨0, 0, false, 0, 0, 0⟩], []⟩
def v8 (α : AH) : Value := .agg #[.slice (some ⟨α.n, 0, none⟩) 2 0, .slice (some ⟨α.n + 1, 0, none⟩) 3 0, .slice none 0 0]
def M8 (α : AH) : AH := (α.alloc ⟨pc0 ++ pc0, 68, true⟩).alloc ⟨[.int .i64 (-1), .int .i64 1, .bool false, .int .i64 0, .int .u32 0, .int .i64 0, .int .i64 5, .int .i64 0, .bool false, .int .i64 0, .int .u32 0, .int .i64 0, .int .i64 0, .int .i64 0, .bool false, .int .i64 0, .int .u32 0, .int .i64 0], 36, true⟩
theorem M8_facts (α : AH) : IsCfg (M8 α) (v8 α) cf8 ∧ Fr α.n α (M8 α) := by
  refine ⟨⟨_, _, _, rfl, ?_, ?_, .inl ⟨rfl, rfl⟩⟩, (Fr.alloc0 _ _).up (Fr.alloc0 _ _)⟩
  · refine .inr ⟨α.n, 0, 0, ⟨pc0 ++ pc0, 68, true⟩, rfl, by simp [M8]; omega, by simp [M8, gA], rfl, by decide, fun i hi => ?_⟩
    have : prtR (M8 α) pt0 pc0 := ⟨_, 0, 0, 0, 0, 0, rfl, rfl, .inl ⟨rfl, rfl⟩⟩
    match i, hi with
    | 0, _ => exact this
    | 1, _ => exact this
  · refine .inr ⟨α.n + 1, 0, 0, _, rfl, by simp [M8], by simp [M8, gA]; rfl, rfl, by decide, fun i hi => ?_⟩
    match i, hi with
    | 0, _ => rfl
    | 1, _ => rfl
    | 2, _ => rfl
def M9 (α : AH) : AH := ((α.alloc ⟨[.bool true], 4, true⟩).alloc ⟨[.bool false, .bool true], 4, true⟩).alloc ⟨[.slice (some ⟨α.n, 0, none⟩) 1 0, .slice (some ⟨α.n + 1, 0, none⟩) 2 0], 40, true⟩
theorem M9_facts (α : AH) : Mats (M9 α) (.slice (some ⟨α.n + 1 + 1, 0, none⟩) 2 0) [[true], [false, true]] ∧ Fr α.n α (M9 α) := by
  refine ⟨?_, ((Fr.alloc0 _ _).up (Fr.alloc0 _ _)).up (Fr.alloc0 _ _)⟩
  refine .inr ⟨α.n + 1 + 1, 0, 0, _, rfl, by simp [M9], by simp [M9, gA]; rfl, rfl, by simp [sliceK, boolK], fun i hi => ?_⟩
  match i, hi with
  | 0, _ =>
    refine ⟨_, rfl, .inr ⟨α.n, 0, 0, ⟨[.bool true], 4, true⟩, rfl, by simp [M9]; omega, ?_, rfl, by simp [sliceK, boolK], fun i hi => ?_⟩⟩
    · have : ¬ α.n = α.n + 1 + 1 := by omega
      simp [M9, gA, this]
    · match i, hi with
      | 0, _ => rfl
  | 1, _ =>
    refine ⟨_, rfl, .inr ⟨α.n + 1, 0, 0, ⟨[.bool false, .bool true], 4, true⟩, rfl, by simp [M9], by simp [M9, gA], rfl, by simp [sliceK, boolK], fun i hi => ?_⟩⟩
    match i, hi with
    | 0, _ => rfl
    | 1, _ => rfl
set_option maxRecDepth 100000 in
set_option maxHeartbeats 1000000 in
theorem graphNumbers_ok (α : AH) : NCalls Try.prog 3 [] α (fun r α' => r = .bool true ∧ Fr α.n α α') := by
  refine ncw mixd Try.func3 rfl Try.results3 (by kernel_rfl) ?_
  simp
  refine wlp [] 0 23 (by kernel_rfl) 60 (fun n t α' => ∃ k : Nat, n = 60 - k ∧ k ≤ 60 ∧ t 1 = .int .i64 k ∧ Fr α.n α α') ⟨0, by omega, by omega, by simp, .refl _ _⟩ ?_
  rintro J hJ n t α1 ⟨k, rfl, hk, t1, hf⟩
  by_cases ck : k < 60
  · have ck' : (k : Int) < 60 := by omega
    have e1 : IntKind.i64.wrap ((k : Int) + 1) = (k : Int) + 1 := w64 (by omega)
    simp [t1, ck, ck']
    refine (tape7_ok k _ (by omega) (by omega)).mono fun v β hr => ?_
    obtain ⟨L, hL, ho, hb⟩ := hr
    obtain ⟨_, _, rfl⟩ := ho.sl.isSl
    simp
    refine (config_ok L β.n 0 _ (tape_mk ho.sl (by omega))).mono fun v' β' hr => ?_
    obtain ⟨c0, c, hk0, ha, _, hc, hX⟩ := hr
    have F1 := (hf.trans (hb.mono hf.n)).trans (hX.out.mono (by have := hf.n; have := hb.n; omega))
    have c7 := Cfg7.mk' hk0 ha
    have hc0 := hc
    obtain ⟨vp, vc, vt, rfl, h1, h2, h3⟩ := hc
    simp [h1.isCell, h2.isCell, h3.isCell]
    have hg := AH.alloc_get β' ⟨[vp, vc, vt], 26, true⟩
    have hF := Fr.alloc0 β' ⟨[vp, vc, vt], 26, true⟩
    have hn := AH.alloc_n β' ⟨[vp, vc, vt], 26, true⟩
    generalize β'.alloc _ = γ at *
    have m1 : 0 ≤ (k : Int).tmod 8 := Int.tmod_nonneg _ (by omega)
    have m2 : (k : Int).tmod 8 < 8 := Int.tmod_lt_of_pos _ (by omega)
    have e2 : IntKind.i64.wrap ((k : Int).tmod 8) = (k : Int).tmod 8 := w64 (by omega)
    have e3 : IntKind.i64.wrap ((k : Int).tmod 8 - 2) = (k : Int).tmod 8 - 2 := w64 (by omega)
    refine wlp [0, 3] 13 23 (by kernel_rfl) 8 (fun n t α' => ∃ a : Nat, n = 8 - a ∧ a ≤ 8 ∧ t 3 = .int .i64 ((a : Int) - 2) ∧ Fr γ.n γ α') ⟨0, by omega, by omega, by simp, .refl _ _⟩ ?_
    rintro J1 hJ1 n t' α2 ⟨a, rfl, ha, t3, hf2⟩
    by_cases ca : a < 8
    · have ca' : (a : Int) - 2 < 6 := by omega
      have e4 : IntKind.i64.wrap ((a : Int) - 2 + 1) = (a : Int) - 2 + 1 := w64 (by omega)
      simp [t1, t3, ca', e2, e3, (hf2.get _ (by omega)).trans hg]
      refine (same7_ok _ _ _ c _ _ _ ((hc0.fr hF).fr hf2) (by have := c7.n4; omega) (by have := c7.cl; omega)).mono fun r β hr => ?_
      obtain ⟨rfl, hs⟩ := hr
      simp [t3, e4]
      exact agn_mk (8 - (a + 1)) (by omega) (hJ1 _ _ _ ⟨a + 1, rfl, by omega, by simp; omega, hf2.up hs⟩)
    · have : a = 8 := by omega
      subst this
      simp [t3, t1, e1]
      refine agn_mk (60 - (k + 1)) (by omega) (hJ _ _ _ ⟨k + 1, rfl, by omega, by simp, ?_⟩)
      have := F1.n
      exact F1.trans ((hF.mono this).trans (hf2.mono (by omega)))
  · have : k = 60 := by omega
    subst this
    simp [t1, amake, rep, gA, sA]
    change NCalls _ _ [v8 α1, _, _] (M8 α1) _
    obtain ⟨hc, hF⟩ := M8_facts α1
    refine (same7_ok _ _ _ cf8 _ _ _ hc (by decide) (by decide)).mono fun r β hr => ?_
    obtain ⟨rfl, hs⟩ := hr
    simp [rep]
    change NCalls _ _ _ (M9 β) _
    obtain ⟨hm, hF2⟩ := M9_facts β
    refine (closure_ok _ _ _ hm (by decide)).mono fun r γ hr => ?_
    obtain ⟨-, hr, hF3⟩ := hr
    obtain rfl := hr (by decide)
    simp
    refine (matrix_ok [] [] _ _ _ (.inl ⟨rfl, rfl⟩) (.inl ⟨rfl, rfl⟩) (by decide) (by simp)).mono fun r β hr => ?_
    obtain ⟨rfl, rfl⟩ := hr
    simp
    refine (known7_ok _).mono fun r δ hr => ?_
    obtain ⟨rfl, hF4⟩ := hr
    simp
    exact hf.trans ((((hF.up hs).up hF2).up (hF3.up hF4)).mono hf.n)
end Go.Proofs.Ytggkeldedennfaa

set_option linter.unusedVariables false
set_option linter.unusedSimpArgs false
namespace Go.Proofs.Ytggkeldedennfaa
open Go.ChangeShapes Go.WideShapes Go.ChangeAt Go.RowKit Go.Lay
open Go.ChangeMaps (open_string shut_string)
set_option maxRecDepth 100000 in
theorem graphNumbers_lifted (os : Os) (started : os.Started) (H : Type) (enc : TypeId × Value → H) :
    ReturnsInHanded {} Try.checked os 3 .any (Rows.graphNumbersSpec.pre6 enc Try.prog Try.f3 Rows.graphNumbersRow.domain false) (Rows.graphNumbersSpec.post enc Try.prog Try.f3 false true false false) := by
  refine returnsInHanded_of_change_sized (C := Try.checked) Rk.own started (by kernel_rfl) Try.func3
    (ChangeSpec.witness6 (enc := enc) (C := Try.checked) false ⟨#[], #[], []⟩ 8 (by kernel_rfl) (by kernel_rfl) (by kernel_rfl) (by kernel_rfl)) ?_
  intro W base args ds gs before hval0 hW hcnd hsz0 _
  have hsz : (DataW.weightsEach Try.prog (Try.f3.params.toList ++ Rows.graphNumbersSpec.plain.varTypes Try.prog) (ds ++ gs)).all (· ≤ reachBytes) = true := hsz0
  have hval : ∀ (j : Nat) t v, Try.f3.params[j]? = some t → args[j]? = some v → Value.okWide Try.prog W .any base t v := hval0
  have hW' := hW
  obtain ⟨p, q, hA0, hV, rfl, hfz, hnd⟩ := hW
  have hA : DataW.TrodAll enc Try.prog W 0 (fun _ => true) true Try.f3.params.toList args.toList ds p := hA0
  rw [Try.params3] at hA hval hsz
  obtain ⟨rfl, rfl, rfl⟩ := trodAll_none hA
  obtain ⟨rfl, rfl⟩ := trodVars_none hV
  clear hA0 hval0 hsz0 hsz
  refine (calls1 (rel0 _ W) (VRL.nil _) (graphNumbers_ok  ⟨0, fun _ => none⟩ )).mono fun e W' ⟨he, bel⟩ => ?_
  subst he
  exact ⟨_, rfl, _, _, _, [], _, [], hW', trodAll_mk1 (shut_bool Try.underlying4 _), trodAll_mk0, rfl, bel.frame _, fun h => by cases h⟩
theorem graphNumbers_holds : Rows.GraphNumbersSaid :=
  OpenClaim.holds_of_wide 3 Try.f3 rfl rfl rfl rfl rfl rfl rfl ⟨rfl, rfl, rfl, rfl, rfl⟩ rfl rfl rfl rfl rfl (by kernel_rfl) Try.func3 (by kernel_rfl)
    (of_decide_eq_true (by kernel_rfl)) (by unfold Func.isWrapper; first | (rw [if_pos (by decide +kernel)]; kernel_rfl) | (rw [if_neg (by decide +kernel)]; exact ⟨rfl, rfl⟩))
    (fun os started H enc _ => graphNumbers_lifted os started H enc)
end Go.Proofs.Ytggkeldedennfaa
