/- Contract: horariumlaw3.NodeNumbers. -/
import Derived.Test.YtggkeldedennfaaNn
set_option linter.unusedVariables false
set_option linter.unusedSimpArgs false
namespace Go.Proofs.Ytggkeldedennfaa
open Go Go.RowKit Go.Lay Go.Nod

theorem FrX.up {id N : Nat} {a b : AH} (h : FrX id a b) (h1 : N ≤ id) (h2 : N ≤ a.n) : Fr N a b := ⟨h.n, fun i hi => h.get i (by omega) (by omega)⟩
theorem newTape {β : AH} {vL : Value} {L : List Int} (h : Ints β vL L) (hl : L.length ≤ 1000000000000000) : IsTape (β.alloc ⟨[vL, .int .i64 0], 31, true⟩) β.n L 0 :=
  ⟨hl, by omega, by omega, by simp [AH.alloc], vL, AH.alloc_get _ _, h.fr ((Fr.refl _ _).alloc (Nat.le_refl _) _)⟩

/-- The eleven numbers. -/
theorem elevens (γ : AH) (c : Nat) : Sl 2 (intK .i64) (γ.alloc ⟨[.int .i64 (-1), .int .i64 0, .int .i64 1, .int .i64 2, .int .i64 5, .int .i64 6, .int .i64 128, .int .i64 129, .int .i64 4096, .int .i64 4097, .int .i64 9223372036854775807], 2, true⟩) (.slice (some ⟨γ.n, 0, none⟩) 11 c) [-1, 0, 1, 2, 5, 6, 128, 129, 4096, 4097, 9223372036854775807] := by
  refine .inr ⟨γ.n, 0, c, _, rfl, by simp [AH.alloc], AH.alloc_get _ _, rfl, by simp [intK], fun i hi => ?_⟩
  have : i = 0 ∨ i = 1 ∨ i = 2 ∨ i = 3 ∨ i = 4 ∨ i = 5 ∨ i = 6 ∨ i = 7 ∨ i = 8 ∨ i = 9 ∨ i = 10 := by simp at hi; omega
  rcases this with rfl | rfl | rfl | rfl | rfl | rfl | rfl | rfl | rfl | rfl | rfl <;> rfl

set_option maxRecDepth 100000 in
set_option maxHeartbeats 8000000 in
theorem nodeNumbers_ok (α : AH) : NCalls Try.prog 7 [] α (fun r α' => r = .bool true ∧ Fr α.n α α') := by
  refine ncalls_of (by kernel_rfl) Try.func7 rfl (by rw [Try.ntmps7]; simp) ?_
  rw [Try.ntmps7, Try.results7]
  repeat (first
    | (refine nw_seq (nw_region fun K hK => ?_); simp []; refine hK _ _ ?_; clear hK K)
    | (refine nw_region fun K hK => ?_; simp []; refine hK _ _ ?_; clear hK K)
    | refine nw_seq ?_
    | refine nw_block ?_
    | (refine nw_yes ?_ ?_; focus (simp []; done))
    | (refine nw_no ?_ ?_; focus (simp []; done))
    | refine nw_skip ?_
    | refine nw_exit ?_
    | refine nw_ret ?_)
  refine nw_loop (fun n s α' => ∃ (k : Nat), n = 60 - k ∧ k ≤ 60 ∧ s 1 = .int .i64 (k : Int) ∧ Fr α.n α α') 60 ⟨0, rfl, by omega, by simp, .refl _ _⟩ ?_
  rintro n s α' ⟨k, rfl, hk, s1, hf⟩
  by_cases c : k < 60
  · have c' : (k : Int) < 60 := by omega
    have e1 : IntKind.i64.wrap ((k : Int) + 1) = (k : Int) + 1 := w64 (by omega)
    have e2 : (k : Int).tmod 7 = ((k % 7 : Nat) : Int) := rfl
    have e3 : IntKind.i64.wrap ((k % 7 : Nat) : Int) = ((k % 7 : Nat) : Int) := w64 (by omega)
    repeat (first
      | (refine nw_seq (nw_region fun K hK => ?_); simp [s1, c']; refine hK _ _ ?_; clear hK K)
      | (refine nw_region fun K hK => ?_; simp [s1, c']; refine hK _ _ ?_; clear hK K)
      | refine nw_seq ?_
      | refine nw_block ?_
      | (refine nw_yes ?_ ?_; focus (simp [s1, c']; done))
      | (refine nw_no ?_ ?_; focus (simp [s1, c']; done))
      | refine nw_skip ?_
      | refine nw_exit ?_
      | refine nw_ret ?_)
    refine nw_region fun K hK => ?_
    simp [s1]
    refine (tape3_ok k _ (by omega) (by omega)).mono fun vL β hr => ?_
    obtain ⟨L, hL, hoL, hfL⟩ := hr
    obtain ⟨lid, lc, lcs, rfl, -, -, -, -, -⟩ := hoL.mem (by omega)
    have hT := newTape hoL.sl (by omega)
    have hfr : Fr β.n β (β.alloc ⟨[.slice (some ⟨lid, 0, none⟩) L.length lc, .int .i64 0], 31, true⟩) := (Fr.refl _ _).alloc (Nat.le_refl _) _
    have hf1 := Fr.up hf hfL
    simp [contK, s1, e2, e3]
    refine (table_ok L β.n 3 (k % 7) (by omega) 0 _ hT).mono fun v γ hr => ?_
    obtain ⟨xs, at1, hx, hx1, hx2, hX, -⟩ := hr
    have h56 : 5 ^ (k % 7) ≤ 5 ^ 6 := Nat.pow_le_pow_right (by omega) (by omega)
    have hf2 : Fr α.n α γ := hf1.trans (((hfr.mono hf1.n).trans (hX.up hf1.n (Nat.le_trans hf1.n hfr.n))))
    simp [contK, s1]
    refine hK _ _ ?_
    clear hK K
    obtain ⟨id, off, hlen, -, -⟩ := hx.sl.rd (t := 49) Try.underlying49 sz55
    by_cases c2 : 150 < (xs.length : Int)
    ·
      repeat (first
        | (refine nw_seq (nw_region fun K hK => ?_); simp [hlen, c2, s1, e1]; refine hK _ _ ?_; clear hK K)
        | (refine nw_region fun K hK => ?_; simp [hlen, c2, s1, e1]; refine hK _ _ ?_; clear hK K)
        | refine nw_seq ?_
        | refine nw_block ?_
        | (refine nw_yes ?_ ?_; focus (simp [hlen, c2, s1, e1]; done))
        | (refine nw_no ?_ ?_; focus (simp [hlen, c2, s1, e1]; done))
        | refine nw_skip ?_
        | refine nw_exit ?_
        | refine nw_ret ?_)
      exact ⟨60 - (k + 1), by omega, k + 1, rfl, by omega, by simp, hf2⟩
    repeat (first
      | (refine nw_seq (nw_region fun K hK => ?_); simp [hlen, c2]; refine hK _ _ ?_; clear hK K)
      | (refine nw_region fun K hK => ?_; simp [hlen, c2]; refine hK _ _ ?_; clear hK K)
      | refine nw_seq ?_
      | refine nw_block ?_
      | (refine nw_yes ?_ ?_; focus (simp [hlen, c2]; done))
      | (refine nw_no ?_ ?_; focus (simp [hlen, c2]; done))
      | refine nw_skip ?_
      | refine nw_exit ?_
      | refine nw_ret ?_)
    refine nw_region fun K hK => ?_
    simp [s1]
    refine (lawSame_ok xs k _ v hx.sl (by omega)).mono fun w δ hr => ?_
    obtain ⟨rfl, hg⟩ := hr
    simp [contK, ]
    refine hK _ _ ?_
    clear hK K
    repeat (first
      | (refine nw_seq (nw_region fun K hK => ?_); simp []; refine hK _ _ ?_; clear hK K)
      | (refine nw_region fun K hK => ?_; simp []; refine hK _ _ ?_; clear hK K)
      | refine nw_seq ?_
      | refine nw_block ?_
      | (refine nw_yes ?_ ?_; focus (simp []; done))
      | (refine nw_no ?_ ?_; focus (simp []; done))
      | refine nw_skip ?_
      | refine nw_exit ?_
      | refine nw_ret ?_)
    have hv := hx.sl.fr hg
    have hf3 := Fr.up hf2 hg
    clear hf2 hg hx hX hT hfr hoL hf1 hfL
    refine nw_loop (fun n s α' => ∃ (j : Nat), n = 7 - j ∧ j ≤ 7 ∧ s 1 = .int .i64 (k : Int) ∧ s 2 = v ∧ s 3 = .int .i64 (j : Int) ∧ Fr δ.n δ α') 7 ⟨0, rfl, by omega, by simp [s1], by simp, by simp, .refl _ _⟩ ?_
    rintro n s α' ⟨j, rfl, hj, s1, s2, s3, hf4⟩
    by_cases c3 : j < 7
    · have c3' : (j : Int) < 7 := by omega
      have e4 : IntKind.i64.wrap ((j : Int) + 1) = (j : Int) + 1 := w64 (by omega)
      have hE := elevens α' 0
      have hfr : Fr α'.n α' (α'.alloc ⟨[.int .i64 (-1), .int .i64 0, .int .i64 1, .int .i64 2, .int .i64 5, .int .i64 6, .int .i64 128, .int .i64 129, .int .i64 4096, .int .i64 4097, .int .i64 9223372036854775807], 2, true⟩) := (Fr.refl _ _).alloc (Nat.le_refl _) _
      repeat (first
        | (refine nw_seq (nw_region fun K hK => ?_); simp [s3, c3']; refine hK _ _ ?_; clear hK K)
        | (refine nw_region fun K hK => ?_; simp [s3, c3']; refine hK _ _ ?_; clear hK K)
        | refine nw_seq ?_
        | refine nw_block ?_
        | (refine nw_yes ?_ ?_; focus (simp [s3, c3']; done))
        | (refine nw_no ?_ ?_; focus (simp [s3, c3']; done))
        | refine nw_skip ?_
        | refine nw_exit ?_
        | refine nw_ret ?_)
      generalize α'.alloc _ = ε at *
      obtain ⟨qid, qoff, -, qidx, qld⟩ := hE.rd (t := 52) Try.underlying52 sz2
      generalize hLL : [(-1 : Int), 0, 1, 2, 5, 6, 128, 129, 4096, 4097, 9223372036854775807] = LL at *
      have hL11 : LL.length = 11 := by rw [← hLL]; rfl
      refine nw_loop (fun n s α2 => ∃ (i : Nat), n = 11 - i ∧ i ≤ 11 ∧ s 1 = .int .i64 (k : Int) ∧ s 2 = v ∧ s 3 = .int .i64 (j : Int) ∧ s 34 = .slice (some ⟨α'.n, 0, none⟩) 11 0 ∧ s 35 = .int .i64 11 ∧ s 36 = .int .i64 (i : Int) ∧ Fr ε.n ε α2)
        11 ⟨0, rfl, by omega, by simp [s1], by simp [s2], by simp [s3], by simp, by simp, by simp, .refl _ _⟩ ?_
      rintro n s α2 ⟨i, rfl, hi, s1, s2, s3, s34, s35, s36, hf5⟩
      have hf6 : Fr δ.n δ α2 := Fr.up (Fr.up hf4 hfr) hf5
      by_cases c4 : i < 11
      · have c4' : (i : Int) < 11 := by omega
        have qx := qidx .i64 i (by omega)
        obtain ⟨b, hb, _, hc⟩ := qld _ hf5 i (by omega)
        have hc : b.cells[qoff + i * (intK .i64).sz]? = some (.int .i64 LL[i]) := by have := take_get hc (j := 0) (by simp); simpa using this
        generalize LL[i] = nn at *
        have e5 : IntKind.i64.wrap ((i : Int) + 1) = (i : Int) + 1 := w64 (by omega)
        repeat (first
          | (refine nw_seq (nw_region fun K hK => ?_); simp [s34, s35, s36, c4', qx, hb, hc]; refine hK _ _ ?_; clear hK K)
          | (refine nw_region fun K hK => ?_; simp [s34, s35, s36, c4', qx, hb, hc]; refine hK _ _ ?_; clear hK K)
          | refine nw_seq ?_
          | refine nw_block ?_
          | (refine nw_yes ?_ ?_; focus (simp [s34, s35, s36, c4', qx, hb, hc]; done))
          | (refine nw_no ?_ ?_; focus (simp [s34, s35, s36, c4', qx, hb, hc]; done))
          | refine nw_skip ?_
          | refine nw_exit ?_
          | refine nw_ret ?_)
        refine nw_region fun K hK => ?_
        simp [s1, s2, s3]
        refine (odd_ok xs k j nn _ v (hv.fr hf6) (by omega)).mono fun w ζ hr => ?_
        obtain ⟨ys, hy, hyl, hg1⟩ := hr
        simp [contK, s1]
        refine (lawSame_ok ys k _ w hy.sl (by omega)).mono fun w η hr => ?_
        obtain ⟨rfl, hg2⟩ := hr
        simp [contK, ]
        refine hK _ _ ?_
        clear hK K
        repeat (first
          | (refine nw_seq (nw_region fun K hK => ?_); simp [s36, e5]; refine hK _ _ ?_; clear hK K)
          | (refine nw_region fun K hK => ?_; simp [s36, e5]; refine hK _ _ ?_; clear hK K)
          | refine nw_seq ?_
          | refine nw_block ?_
          | (refine nw_yes ?_ ?_; focus (simp [s36, e5]; done))
          | (refine nw_no ?_ ?_; focus (simp [s36, e5]; done))
          | refine nw_skip ?_
          | refine nw_exit ?_
          | refine nw_ret ?_)
        exact ⟨11 - (i + 1), by omega, i + 1, rfl, by omega, by simp [s1], by simp [s2], by simp [s3], by simp [s34], by simp [s35], by simp, Fr.up hf5 (Fr.up hg1 hg2)⟩
      · have : i = 11 := by omega
        subst this
        repeat (first
          | (refine nw_seq (nw_region fun K hK => ?_); simp [s3, s35, s36, e4]; refine hK _ _ ?_; clear hK K)
          | (refine nw_region fun K hK => ?_; simp [s3, s35, s36, e4]; refine hK _ _ ?_; clear hK K)
          | refine nw_seq ?_
          | refine nw_block ?_
          | (refine nw_yes ?_ ?_; focus (simp [s3, s35, s36, e4]; done))
          | (refine nw_no ?_ ?_; focus (simp [s3, s35, s36, e4]; done))
          | refine nw_skip ?_
          | refine nw_exit ?_
          | refine nw_ret ?_)
        exact ⟨7 - (j + 1), by omega, j + 1, rfl, by omega, by simp [s1], by simp [s2], by simp, hf6⟩
    · have : j = 7 := by omega
      subst this
      repeat (first
        | (refine nw_seq (nw_region fun K hK => ?_); simp [s1, s3, e1]; refine hK _ _ ?_; clear hK K)
        | (refine nw_region fun K hK => ?_; simp [s1, s3, e1]; refine hK _ _ ?_; clear hK K)
        | refine nw_seq ?_
        | refine nw_block ?_
        | (refine nw_yes ?_ ?_; focus (simp [s1, s3, e1]; done))
        | (refine nw_no ?_ ?_; focus (simp [s1, s3, e1]; done))
        | refine nw_skip ?_
        | refine nw_exit ?_
        | refine nw_ret ?_)
      exact ⟨60 - (k + 1), by omega, k + 1, rfl, by omega, by simp, Fr.up hf3 hf4⟩
  have : k = 60 := by omega
  subst this
  repeat (first
    | (refine nw_seq (nw_region fun K hK => ?_); simp [s1]; refine hK _ _ ?_; clear hK K)
    | (refine nw_region fun K hK => ?_; simp [s1]; refine hK _ _ ?_; clear hK K)
    | refine nw_seq ?_
    | refine nw_block ?_
    | (refine nw_yes ?_ ?_; focus (simp [s1]; done))
    | (refine nw_no ?_ ?_; focus (simp [s1]; done))
    | refine nw_skip ?_
    | refine nw_exit ?_
    | refine nw_ret ?_)
  clear s1 c hk
  refine nw_loop (fun n s α' => ∃ (d : Nat), n = 19 - d ∧ 1 ≤ d ∧ d ≤ 19 ∧ s 6 = .int .i64 (d : Int) ∧ Fr α.n α α') 18 ⟨1, by omega, by omega, by omega, by simp, hf⟩ ?_
  clear hf
  rintro n s α' ⟨d, rfl, hd1, hd, s6, hf⟩
  by_cases c : d < 19
  · have c' : (d : Int) < 19 := by omega
    have e1 : IntKind.i64.wrap ((d : Int) + 1) = (d : Int) + 1 := w64 (by omega)
    repeat (first
      | (refine nw_seq (nw_region fun K hK => ?_); simp [s6, c']; refine hK _ _ ?_; clear hK K)
      | (refine nw_region fun K hK => ?_; simp [s6, c']; refine hK _ _ ?_; clear hK K)
      | refine nw_seq ?_
      | refine nw_block ?_
      | (refine nw_yes ?_ ?_; focus (simp [s6, c']; done))
      | (refine nw_no ?_ ?_; focus (simp [s6, c']; done))
      | refine nw_skip ?_
      | refine nw_exit ?_
      | refine nw_ret ?_)
    refine nw_loop (fun n s β => ∃ (i : Nat) (ys : List Nd), n = d - i ∧ 1 ≤ i ∧ i ≤ d ∧ s 6 = .int .i64 (d : Int) ∧ s 8 = .int .i64 (i : Int) ∧ OwN α.n β (s 7) ys ∧ ys.length ≤ i ∧ Fr α.n α β) (d - 1) ⟨1, [], by omega, by omega, by omega, by simp [s6], by simp, by simp; exact .nil, by simp, hf⟩ ?_
    clear hf
    rintro n s β ⟨i, ys, rfl, hi1, hi, s6, s8, ho, hy, hf⟩
    by_cases c2 : i < d
    · have c2' : (i : Int) < d := by omega
      have e2 : IntKind.i64.wrap ((i : Int) + 1) = (i : Int) + 1 := w64 (by omega)
      have hA : Fr β.n β (β.alloc ⟨[.int .i64 3, .int .i64 4], 3, true⟩) := (Fr.refl _ _).alloc (Nat.le_refl _) _
      have hf2 : Fr α.n α (β.alloc ⟨[.int .i64 3, .int .i64 4], 3, true⟩) := Fr.up hf hA
      rcases (show i % 2 = 0 ∨ i % 2 = 1 by omega) with hp | hp
      · have p0 : (i : Int) % 2 = 0 := by omega
        have p0' : (i : Int).tmod 2 = 0 := by rw [show (i : Int).tmod 2 = ((i % 2 : Nat) : Int) from rfl, hp]; rfl
        obtain ⟨v', γ, a1, a2, a3, -⟩ := (ho.fr hA).push el49 hf2.n (x := ⟨3, 0, 1⟩) (c := [.int .i64 3, .int .i64 0, .int .i64 1]) rfl (node_apart _) (by omega) 0
        simp only [show ∀ b, (β.alloc b).n = β.n + 1 from fun _ => rfl] at a1
        repeat (first
          | (refine nw_seq (nw_region fun K hK => ?_); simp [s6, s8, c2', e2, p0, p0', a1]; refine hK _ _ ?_; clear hK K)
          | (refine nw_region fun K hK => ?_; simp [s6, s8, c2', e2, p0, p0', a1]; refine hK _ _ ?_; clear hK K)
          | refine nw_seq ?_
          | refine nw_block ?_
          | (refine nw_yes ?_ ?_; focus (simp [s6, s8, c2', e2, p0, p0', a1]; done))
          | (refine nw_no ?_ ?_; focus (simp [s6, s8, c2', e2, p0, p0', a1]; done))
          | refine nw_skip ?_
          | refine nw_exit ?_
          | refine nw_ret ?_)
        exact ⟨d - (i + 1), by omega, i + 1, ys ++ [⟨3, 0, 1⟩], rfl, by omega, by omega, by simp [s6], by simp, by simp; exact a2, by simp; omega, hf2.trans a3⟩
      · have p0 : (i : Int) % 2 = 1 := by omega
        have p0' : (i : Int).tmod 2 = 1 := by rw [show (i : Int).tmod 2 = ((i % 2 : Nat) : Int) from rfl, hp]; rfl
        obtain ⟨v', γ, a1, a2, a3, -⟩ := (ho.fr hA).push el49 hf2.n (x := ⟨4, 0, 1⟩) (c := [.int .i64 4, .int .i64 0, .int .i64 1]) rfl (node_apart _) (by omega) 0
        simp only [show ∀ b, (β.alloc b).n = β.n + 1 from fun _ => rfl] at a1
        repeat (first
          | (refine nw_seq (nw_region fun K hK => ?_); simp [s6, s8, c2', e2, p0, p0', a1]; refine hK _ _ ?_; clear hK K)
          | (refine nw_region fun K hK => ?_; simp [s6, s8, c2', e2, p0, p0', a1]; refine hK _ _ ?_; clear hK K)
          | refine nw_seq ?_
          | refine nw_block ?_
          | (refine nw_yes ?_ ?_; focus (simp [s6, s8, c2', e2, p0, p0', a1]; done))
          | (refine nw_no ?_ ?_; focus (simp [s6, s8, c2', e2, p0, p0', a1]; done))
          | refine nw_skip ?_
          | refine nw_exit ?_
          | refine nw_ret ?_)
        exact ⟨d - (i + 1), by omega, i + 1, ys ++ [⟨4, 0, 1⟩], rfl, by omega, by omega, by simp [s6], by simp, by simp; exact a2, by simp; omega, hf2.trans a3⟩
    · have c2' : ¬ ((i : Int) < d) := by omega
      obtain ⟨v', γ, a1, a2, a3, -⟩ := ho.push el49 hf.n (x := ⟨2, 0, 1⟩) (c := [.int .i64 2, .int .i64 0, .int .i64 1]) rfl (node_apart _) (by omega) 0
      repeat (first
        | (refine nw_seq (nw_region fun K hK => ?_); simp [s6, s8, c2']; refine hK _ _ ?_; clear hK K)
        | (refine nw_region fun K hK => ?_; simp [s6, s8, c2']; refine hK _ _ ?_; clear hK K)
        | refine nw_seq ?_
        | refine nw_block ?_
        | (refine nw_yes ?_ ?_; focus (simp [s6, s8, c2']; done))
        | (refine nw_no ?_ ?_; focus (simp [s6, s8, c2']; done))
        | refine nw_skip ?_
        | refine nw_exit ?_
        | refine nw_ret ?_)
      refine nw_region fun K hK => ?_
      simp [s6, a1]
      refine (lawSame_ok _ _ _ v' a2.sl (by simp; omega)).mono fun w δ hr => ?_
      obtain ⟨rfl, hg⟩ := hr
      simp [contK, ]
      refine hK _ _ ?_
      clear hK K
      repeat (first
        | (refine nw_seq (nw_region fun K hK => ?_); simp [s6, e1]; refine hK _ _ ?_; clear hK K)
        | (refine nw_region fun K hK => ?_; simp [s6, e1]; refine hK _ _ ?_; clear hK K)
        | refine nw_seq ?_
        | refine nw_block ?_
        | (refine nw_yes ?_ ?_; focus (simp [s6, e1]; done))
        | (refine nw_no ?_ ?_; focus (simp [s6, e1]; done))
        | refine nw_skip ?_
        | refine nw_exit ?_
        | refine nw_ret ?_)
      exact ⟨19 - (d + 1), by omega, d + 1, rfl, by omega, by omega, by simp, (hf.trans a3).trans (hg.mono (hf.trans a3).n)⟩
  have : d = 19 := by omega
  subst this
  repeat (first
    | (refine nw_seq (nw_region fun K hK => ?_); simp [s6]; refine hK _ _ ?_; clear hK K)
    | (refine nw_region fun K hK => ?_; simp [s6]; refine hK _ _ ?_; clear hK K)
    | refine nw_seq ?_
    | refine nw_block ?_
    | (refine nw_yes ?_ ?_; focus (simp [s6]; done))
    | (refine nw_no ?_ ?_; focus (simp [s6]; done))
    | refine nw_skip ?_
    | refine nw_exit ?_
    | refine nw_ret ?_)
  clear s6 c hd hd1
  refine nw_loop (fun n s α' => ∃ (m : Nat), n = 19 - m ∧ m ≤ 19 ∧ s 9 = .int .i64 (1 + 7 * (m : Int)) ∧ Fr α.n α α') 19 ⟨0, by omega, by omega, by simp, hf⟩ ?_
  clear hf
  rintro n s α' ⟨m, rfl, hm, s9, hf⟩
  by_cases c : m < 19
  · have c' : 1 + 7 * (m : Int) < 131 := by omega
    have e1 : IntKind.i64.wrap (1 + 7 * (m : Int) + 7) = 1 + 7 * (m : Int) + 7 := w64 (by omega)
    have hA : Fr α'.n α' (α'.alloc ⟨[.int .i64 3, .int .i64 0, .int .i64 (1 + 7 * (m : Int))], 55, true⟩) := (Fr.refl _ _).alloc (Nat.le_refl _) _
    have o1 : OwN α.n (α'.alloc ⟨[.int .i64 3, .int .i64 0, .int .i64 (1 + 7 * (m : Int))], 55, true⟩) (.slice (some ⟨α'.n, 0, none⟩) 1 0) [⟨3, 0, 1 + 7 * (m : Int)⟩] := Ow.one hf.n rfl _
    repeat (first
      | (refine nw_seq (nw_region fun K hK => ?_); simp [s9, c']; refine hK _ _ ?_; clear hK K)
      | (refine nw_region fun K hK => ?_; simp [s9, c']; refine hK _ _ ?_; clear hK K)
      | refine nw_seq ?_
      | refine nw_block ?_
      | (refine nw_yes ?_ ?_; focus (simp [s9, c']; done))
      | (refine nw_no ?_ ?_; focus (simp [s9, c']; done))
      | refine nw_skip ?_
      | refine nw_exit ?_
      | refine nw_ret ?_)
    refine nw_loop (fun n s β => ∃ (i : Nat) (ys : List Nd), n = (1 + 7 * m) - i ∧ i ≤ 1 + 7 * m ∧ s 9 = .int .i64 (1 + 7 * (m : Int)) ∧ s 11 = .int .i64 (i : Int) ∧ OwN α.n β (s 10) ys ∧ ys.length ≤ 1 + i ∧ Fr α.n α β) (1 + 7 * m) ⟨0, _, by omega, by omega, by simp [s9], by simp, by simp; exact o1, by simp, Fr.up hf hA⟩ ?_
    clear hf o1 hA
    rintro n s β ⟨i, ys, rfl, hi, s9, s11, ho, hy, hf⟩
    by_cases c2 : i < 1 + 7 * m
    · have c2' : (i : Int) < 1 + 7 * m := by omega
      have e2 : IntKind.i64.wrap ((i : Int) + 1) = (i : Int) + 1 := w64 (by omega)
      have t6 : (i : Int).tmod 6 = ((i % 6 : Nat) : Int) := rfl
      have t40 : (i : Int).tmod 40 = ((i % 40 : Nat) : Int) := rfl
      have e3 : IntKind.i64.wrap ((i % 6 : Nat) : Int) = ((i % 6 : Nat) : Int) := w64 (by omega)
      have e4 : IntKind.i64.wrap ((i % 40 : Nat) : Int) = ((i % 40 : Nat) : Int) := w64 (by omega)
      have e5 : IntKind.i64.wrap (((i % 40 : Nat) : Int) + 1) = ((i % 40 : Nat) : Int) + 1 := w64 (by omega)
      generalize ((i % 6 : Nat) : Int) = r6 at *
      generalize ((i % 40 : Nat) : Int) = r40 at *
      obtain ⟨v', γ, a1, a2, a3, -⟩ := ho.push el49 hf.n (x := ⟨1, r6, r40 + 1⟩) (c := [.int .i64 1, .int .i64 r6, .int .i64 (r40 + 1)]) rfl (node_apart _) (by omega) 0
      repeat (first
        | (refine nw_seq (nw_region fun K hK => ?_); simp [s9, s11, c2', e2, t6, t40, e3, e4, e5, a1]; refine hK _ _ ?_; clear hK K)
        | (refine nw_region fun K hK => ?_; simp [s9, s11, c2', e2, t6, t40, e3, e4, e5, a1]; refine hK _ _ ?_; clear hK K)
        | refine nw_seq ?_
        | refine nw_block ?_
        | (refine nw_yes ?_ ?_; focus (simp [s9, s11, c2', e2, t6, t40, e3, e4, e5, a1]; done))
        | (refine nw_no ?_ ?_; focus (simp [s9, s11, c2', e2, t6, t40, e3, e4, e5, a1]; done))
        | refine nw_skip ?_
        | refine nw_exit ?_
        | refine nw_ret ?_)
      exact ⟨1 + 7 * m - (i + 1), by omega, i + 1, ys ++ [⟨1, r6, r40 + 1⟩], rfl, by omega, by simp [s9], by simp, by simp; exact a2, by simp; omega, hf.trans a3⟩
    · have c2' : ¬ ((i : Int) < 1 + 7 * m) := by omega
      generalize hv : s 10 = v at *
      repeat (first
        | (refine nw_seq (nw_region fun K hK => ?_); simp [s9, s11, c2']; refine hK _ _ ?_; clear hK K)
        | (refine nw_region fun K hK => ?_; simp [s9, s11, c2']; refine hK _ _ ?_; clear hK K)
        | refine nw_seq ?_
        | refine nw_block ?_
        | (refine nw_yes ?_ ?_; focus (simp [s9, s11, c2']; done))
        | (refine nw_no ?_ ?_; focus (simp [s9, s11, c2']; done))
        | refine nw_skip ?_
        | refine nw_exit ?_
        | refine nw_ret ?_)
      refine nw_region fun K hK => ?_
      simp [s9, hv]
      refine (lawSame_ok ys _ _ v ho.sl (by omega)).mono fun w δ hr => ?_
      obtain ⟨rfl, hg⟩ := hr
      simp [contK, ]
      refine hK _ _ ?_
      clear hK K
      repeat (first
        | (refine nw_seq (nw_region fun K hK => ?_); simp [s9, e1]; refine hK _ _ ?_; clear hK K)
        | (refine nw_region fun K hK => ?_; simp [s9, e1]; refine hK _ _ ?_; clear hK K)
        | refine nw_seq ?_
        | refine nw_block ?_
        | (refine nw_yes ?_ ?_; focus (simp [s9, e1]; done))
        | (refine nw_no ?_ ?_; focus (simp [s9, e1]; done))
        | refine nw_skip ?_
        | refine nw_exit ?_
        | refine nw_ret ?_)
      exact ⟨19 - (m + 1), by omega, m + 1, rfl, by omega, by simp; omega, Fr.up hf hg⟩
  have : m = 19 := by omega
  subst this
  repeat (first
    | (refine nw_seq (nw_region fun K hK => ?_); simp [s9]; refine hK _ _ ?_; clear hK K)
    | (refine nw_region fun K hK => ?_; simp [s9]; refine hK _ _ ?_; clear hK K)
    | refine nw_seq ?_
    | refine nw_block ?_
    | (refine nw_yes ?_ ?_; focus (simp [s9]; done))
    | (refine nw_no ?_ ?_; focus (simp [s9]; done))
    | refine nw_skip ?_
    | refine nw_exit ?_
    | refine nw_ret ?_)
  refine nw_region fun K hK => ?_
  simp []
  have hA : ∀ b, Fr α'.n α' (α'.alloc b) := fun b => (Fr.refl _ _).alloc (Nat.le_refl _) b
  refine (lawSame_ok [⟨4, 0, 4611686018427387904⟩, ⟨4, 0, 4611686018427387904⟩, ⟨2, 0, 4611686018427387904⟩] 1 _ _ (lit_nodes [⟨4, 0, 4611686018427387904⟩, ⟨4, 0, 4611686018427387904⟩, ⟨2, 0, 4611686018427387904⟩] α' 0) (by simp)).mono fun w δ hr => ?_
  obtain ⟨rfl, hg⟩ := hr
  have hf2 := Fr.up (Fr.up hf (hA _)) hg
  simp [contK]
  refine (known3_ok _).mono fun w δ' hr => ?_
  obtain ⟨rfl, hg⟩ := hr
  simp [contK, ]
  refine hK _ _ ?_
  clear hK K
  repeat (first
    | (refine nw_seq (nw_region fun K hK => ?_); simp []; refine hK _ _ ?_; clear hK K)
    | (refine nw_region fun K hK => ?_; simp []; refine hK _ _ ?_; clear hK K)
    | refine nw_seq ?_
    | refine nw_block ?_
    | (refine nw_yes ?_ ?_; focus (simp []; done))
    | (refine nw_no ?_ ?_; focus (simp []; done))
    | refine nw_skip ?_
    | refine nw_exit ?_
    | refine nw_ret ?_)
  simp
  exact Fr.up hf2 hg
end Go.Proofs.Ytggkeldedennfaa
