/- Contract: horariumlaw3.NodeParts. -/
import Derived.Test.YtggkeldedennfaaNo
import Derived.Test.YtggkeldedennfaaHb
set_option linter.unusedVariables false
set_option linter.unusedSimpArgs false
namespace Go.Proofs.Ytggkeldedennfaa
open Go Go.RowKit Go.Lay Go.Nod

theorem pv_sub (xs : List Nd) (p : Nat) (z : Nd) (zs : F) (hA : At xs p z zs) : (xs.drop p).take (zs.flat.length + 1) = z :: zs.flat := by
  obtain ⟨_, ys, h⟩ := hA
  rw [h]; simp
set_option maxRecDepth 100000 in
set_option maxHeartbeats 4000000 in
theorem nodeParts_ok (L : List Int) (deep : Int) (α : AH) (v : Value) (h : Ints α v L) (hl : L.length ≤ 1000000000000000) :
    NCalls Try.prog 8 [v, .int .i64 deep] α (fun r α' => r = .bool true ∧ Fr α.n α α') := by
  obtain ⟨va, vc, rfl⟩ := h.isSl
  have hT := newTape h hl
  have hfr : Fr α.n α (α.alloc ⟨[.slice va L.length vc, .int .i64 0], 31, true⟩) := Fr.alloc0 _ _
  refine ncg mixd Try.func8 rfl Try.results8 (by kernel_rfl) ?_
  simp
  refine (within_ok deep 0 4 _ (by omega) (by omega) (by omega)).mono fun w β hw => ?_
  obtain ⟨q, rfl, q0, q1, -, rfl⟩ := hw
  obtain ⟨dd, rfl⟩ := Int.eq_ofNat_of_zero_le q0
  simp
  refine (table_ok L α.n 4 dd (by omega) 0 _ hT).mono fun v γ hr => ?_
  obtain ⟨xs, at1, hx, hx1, hx2, hX, -⟩ := hr
  have h54 : 5 ^ dd ≤ 5 ^ 4 := Nat.pow_le_pow_right (by omega) (by omega)
  have hf : Fr α.n α γ := hfr.trans (hX.up (Nat.le_refl _) hfr.n)
  have hv := hx.sl
  obtain ⟨qid, qc, qcs, rfl, -, qlt, qg, q7, q8⟩ := hx.mem (by omega)
  have q9 := q8 0 (by omega)
  clear hx hX hT hfr
  simp
  refine (right_ok xs (jg_spec xs) _ _ hv (by omega)).mono fun r δ hr => ?_
  obtain ⟨rfl, hg⟩ := hr
  change (contK _ _ _ (.int .i64 (rtM xs)) _)
  have hfδ := hf.up hg
  have hvδ := hv.fr hg
  by_cases hz : rtM xs = 0
  case neg =>
    simp [hz]
    refine (rtM_rd xs _ _ hvδ (by omega)).mono fun r ε hr => ?_
    obtain ⟨rfl, hg2⟩ := hr
    simp [hz]
    refine (known3_ok _).mono fun w ζ hr => ?_
    obtain ⟨rfl, hg3⟩ := hr
    simp
    exact ⟨hz, hfδ.up (hg2.up hg3)⟩
  obtain ⟨x, ks, hok, rfl, hroot, r1, r2, r3⟩ := rt_root hz
  have hA : At (x :: ks.flat) 0 x ks := ⟨hok, [], by simp⟩
  have hjd := judged_of x ks hok
  have hlen : (x :: ks.flat).length = ks.flat.length + 1 := by simp
  have q9 : (qcs.drop (0 * 3)).take 3 = x.enc := q9
  have qk : qcs[0]? = some (.int .i64 x.k) := take_get (o := 0 * 3) (j := 0) q9 (by simp [Nd.enc])
  have qn : qcs[2]? = some (.int .i64 x.n) := take_get (o := 0 * 3) (j := 2) q9 (by simp [Nd.enc])
  have q10 : (ks.flat.length + 1) * 3 ≤ qcs.length := q7
  have hxn := kids_n hok.1
  have hlp := F.len_pos ks hok.2.1
  obtain ⟨hx1', hxk⟩ := kids_four hok.1
  have hkl : ks ≠ .nil → ks.len ≤ val x ks.len := fun hne => by
    unfold val
    have hp : 1 ≤ ks.cnt := by
      cases ks with
      | nil => exact absurd rfl hne
      | cons _ _ _ => simp [F.cnt]
    rcases kids_pos (by have := hok.1; omega : 0 < kidsM x) with h3 | h4
    · rw [if_pos h3]; exact Int.le_refl _
    · rw [if_neg (by omega), if_pos h4]
      have : 1 * ks.len ≤ x.n * ks.len := Int.mul_le_mul_of_nonneg_right hxn (by omega)
      omega
  simp [hz]
  refine (kidsAt_ok _ 0 x ks _ _ hvδ (by omega) hA).mono fun kv β hr => ?_
  obtain ⟨ko, hgk⟩ := hr
  have hpl := places_len ks (0 + 1)
  generalize hkk : (F.places (0 + 1) ks).map Int.ofNat = kl at *
  have hkll : kl.length ≤ ks.flat.length := by rw [← hkk, List.length_map]; exact hpl
  obtain ⟨id, off, klen, kidx, kld⟩ := ints_rd1 ko.sl
  have hvβ := hvδ.fr hgk
  have hfβ := hfδ.up hgk
  simp [klen]
  refine wlp [4, 6, 7, 9, 10, 11, 12] 33 84 (by kernel_rfl) kl.length (fun k t α' => ∃ (i p : Nat) (r : F), k = kl.length - i ∧ i ≤ kl.length ∧ Lies (x :: ks.flat) p r ∧ p + r.flat.length = 1 + ks.flat.length ∧ kl.drop i = (F.places p r).map Int.ofNat ∧ 1 ≤ p ∧ 0 ≤ r.len ∧ r.len ≤ ks.len ∧ r.dep ≤ ks.dep ∧ (r ≠ .nil → ks ≠ .nil) ∧
      t 33 = .int .i64 i ∧ t 6 = .int .i64 (p : Int) ∧ t 7 = .int .i64 (ks.len - r.len) ∧ Fr β.n β α')
    ⟨0, 1, ks, by omega, by omega, hA.kids, rfl, by simpa using hkk.symm, by omega, by omega, Int.le_refl _, Nat.le_refl _, fun hh => hh, by simp, by simp, by simp, .refl _ _⟩ ?_
  rintro J hJ k t α1 ⟨i, p, r, rfl, hi, hL, hp, hd', hp1, hr0, hr1, hrd, hrn, t33, t6, t7, hf'⟩
  have hvα := hvβ.fr hf'
  cases r with
  | nil =>
    have : i = kl.length := by
      have := congrArg List.length hd'
      simp [F.places] at this
      omega
    subst this
    have hpx : (p : Int) = (x :: ks.flat).length := by simp [F.flat] at hp; simp; omega
    rw [hpx] at t6
    simp only [F.len, Int.sub_zero] at t7
    simp [t33]
    refine (length_ok _ hjd _ _ hvα (by omega)).mono fun r ε hr => ?_
    obtain ⟨rfl, hg3⟩ := hr
    have qg1 : ε.get qid = some ⟨qcs, 55, true⟩ := by
      rw [((hgk.up hf').up hg3).get qid (by have := hg.n; omega), hg.get qid qlt]; exact qg
    have hle : min 4097 (val x ks.len) = val x ks.len := by omega
    have hfε := (hfβ.up hf').up hg3
    have hvε := hvα.fr hg3
    have hs0 : sizeM (x :: ks.flat) 0 = ks.flat.length + 1 := by simpa using hA.size
    simp [hle, r3, qg1, qk, qn]
    rcases hxk with k1 | k2 | k3 | k4
    · have e : val x ks.len = x.n := by rw [val, if_neg (by omega), if_neg (by omega)]
      simp [k1, t6, e]
      refine (size_ok _ 0 _ _ hvε (by omega)).mono fun w ζ hw => ?_
      obtain ⟨rfl, hg4⟩ := hw
      simp [hs0]
      refine (known3_ok _).mono fun w η hr => ?_
      obtain ⟨rfl, hg5⟩ := hr
      simp
      exact hfε.up (hg4.up hg5)
    · have e : val x ks.len = x.n := by rw [val, if_neg (by omega), if_neg (by omega)]
      simp [k2, t6, e]
      refine (size_ok _ 0 _ _ hvε (by omega)).mono fun w ζ hw => ?_
      obtain ⟨rfl, hg4⟩ := hw
      simp [hs0]
      refine (known3_ok _).mono fun w η hr => ?_
      obtain ⟨rfl, hg5⟩ := hr
      simp
      exact hfε.up (hg4.up hg5)
    · have e : val x ks.len = ks.len := by rw [val, if_pos k3]
      simp [k3, t6, t7, e]
      refine (size_ok _ 0 _ _ hvε (by omega)).mono fun w ζ hw => ?_
      obtain ⟨rfl, hg4⟩ := hw
      simp [hs0]
      refine (known3_ok _).mono fun w η hr => ?_
      obtain ⟨rfl, hg5⟩ := hr
      simp
      exact hfε.up (hg4.up hg5)
    · have e : val x ks.len = ks.len * x.n := by rw [val, if_neg (by omega), if_pos k4, Int.mul_comm]
      have e2 : IntKind.i64.wrap (ks.len * x.n) = ks.len * x.n := w64 (by have := F.len_pos _ hok; simp only [F.cnt, F.len] at this; omega)
      simp [k4, t6, t7, qg1, qn, e, e2]
      refine (size_ok _ 0 _ _ hvε (by omega)).mono fun w ζ hw => ?_
      obtain ⟨rfl, hg4⟩ := hw
      simp [hs0]
      refine (known3_ok _).mono fun w η hr => ?_
      obtain ⟨rfl, hg5⟩ := hr
      simp
      exact hfε.up (hg4.up hg5)
  | cons z zs r =>
    obtain ⟨hAz, hL'⟩ := hL.head
    obtain ⟨hil, hget, hd'⟩ := drop_head (by simpa [F.places] using hd')
    obtain ⟨b, hb1, hc⟩ := kld _ hf'
    have hc := hc i hil
    rw [hget] at hc
    have e1 : IntKind.i64.wrap ((i : Int) + 1) = (i : Int) + 1 := w64 (by omega)
    have hAl := hAz.lt
    simp only [F.flat, List.length_cons, List.length_append] at hp
    simp [t33, hil, kidx .i64 i hil, hb1 (by omega), hc]
    refine (size_ok _ p _ _ hvα (by omega)).mono fun w ε hw => ?_
    obtain ⟨rfl, hg3⟩ := hw
    rw [hAz.size]
    have hvε := hvα.fr hg3
    have qg1 : ε.get qid = some ⟨qcs, 55, true⟩ := by
      rw [((hgk.up hf').up hg3).get qid (by have := hg.n; omega), hg.get qid qlt]; exact qg
    have hsub : Nodes ε (.slice (some ⟨qid, p * 3, none⟩) (zs.flat.length + 1) 0) (z :: zs.flat) := by
      have := Sl.sub hvε p (zs.flat.length + 1) (by omega) (c' := 0)
      rw [pv_sub _ _ _ _ hAz, show nodeK.sz = 3 from rfl, Nat.zero_add] at this
      exact this
    have hzd := judged_of z zs hAz.1
    have hzl := F.len_pos _ hAz.1
    simp only [F.cnt, F.len] at hzl hr0 hr1
    have hrl := F.len_pos r hL'.1
    have hdz : zs.dep + 1 ≤ ks.dep ∧ r.dep ≤ ks.dep := by simp only [F.dep] at hrd; omega
    have hkv := hkl (hrn (by simp))
    have hmz : min 4097 (val z zs.len) = val z zs.len := by omega
    have hmz4 : val z zs.len ≤ 4096 := by omega
    have lsub : (z :: zs.flat).length = zs.flat.length + 1 := by simp
    have e2 : IntKind.i64.wrap ((p : Int) + (zs.flat.length + 1)) = (p : Int) + (zs.flat.length + 1) := w64 (by omega)
    have e3 : IntKind.i64.wrap ((ks.len - (val z zs.len + r.len)) + val z zs.len) = (ks.len - (val z zs.len + r.len)) + val z zs.len := w64 (by omega)
    simp [e2, show ¬ ((zs.flat.length : Int) + 1 < 1) by omega, show ¬ ((p : Int) < 0) by omega, show ¬ ((ks.flat.length : Int) + 1 < p + (zs.flat.length + 1)) by omega, aslice, qg1,
      show 0 ≤ (p : Int) + (zs.flat.length + 1) by omega, show ((p : Int) + (zs.flat.length + 1)).toNat = p + (zs.flat.length + 1) by omega, show p + (zs.flat.length + 1) ≤ ks.flat.length + 1 by omega, show p + (zs.flat.length + 1) - p = zs.flat.length + 1 by omega]
    refine (length_ok _ hzd _ _ hsub (by omega)).mono fun w ζ hw => ?_
    obtain ⟨rfl, hg4⟩ := hw
    have qg2 := (hg4.get qid (Nat.lt_of_lt_of_le qlt (by have := (hg.up hgk).up (hf'.up hg3); exact this.n))).trans qg1
    simp [hmz, hmz4, e2, aslice, qg2,
      show 0 ≤ (p : Int) + (zs.flat.length + 1) by omega, show ((p : Int) + (zs.flat.length + 1)).toNat = p + (zs.flat.length + 1) by omega, show p + (zs.flat.length + 1) ≤ ks.flat.length + 1 by omega, show p + (zs.flat.length + 1) - p = zs.flat.length + 1 by omega]
    refine (depth_ok _ hzd _ _ (hsub.fr hg4) (by omega)).mono fun w η hw => ?_
    obtain ⟨rfl, hg5⟩ := hw
    simp
    refine (depth_ok _ hjd _ _ ((hvε.fr hg4).fr hg5) (by omega)).mono fun w θ hw => ?_
    obtain ⟨rfl, hg6⟩ := hw
    simp [show ¬ ((ks.dep : Int) + 1 ≤ zs.dep + 1) by omega, t33, t6, t7, F.len, e1, e2, e3]
    exact agn_mk (kl.length - (i + 1)) (by omega) (hJ _ _ _ ⟨i + 1, p + (zs.flat.length + 1), r, rfl, by omega, hL', by omega, hd', by omega, by omega, by omega, by omega, fun _ => hrn (by simp), by simp, by simp, by simp; omega, (((hf'.up hg3).up hg4).up hg5).up hg6⟩)
end Go.Proofs.Ytggkeldedennfaa
