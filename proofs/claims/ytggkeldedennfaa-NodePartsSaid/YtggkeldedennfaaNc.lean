/- Contract: node.measure. -/
import Derived.Test.YtggkeldedennfaaNb
import Derived.Test.YtggkeldedennfaaNq
set_option linter.unusedVariables false
set_option linter.unusedSimpArgs false
namespace Go.Proofs.Ytggkeldedennfaa
open Go Go.RowKit Go.Lay Go.Nod

@[simp] theorem lt_one (a : Int) : (a < a + 1) = True := eq_true (by omega)
@[simp] theorem lt_two (a : Int) : (a < a + 1 + 1) = True := eq_true (by omega)
@[simp] theorem lt_two' (a : Int) : (a < a + 2) = True := eq_true (by omega)
theorem frm_apart : frmK.apart 95 := flatK_apart _ _ _ _ _
theorem rev_set (s : List Frm) (a b : Frm) : (s.reverse ++ [a]).set s.length b = s.reverse ++ [b] := by
  simp
theorem rev_get (s : List Frm) (a : Frm) (h : s.length < (s.reverse ++ [a]).length) : (s.reverse ++ [a])[s.length] = a := by
  rw [List.getElem_append_right (by simp)]; simp

theorem nw_cut {P : Program} {N : Nat} {c : Code} {Q : Exit → AS → AH → Prop} {s : AS} {α : AH} {J K : AS → AH → Prop} (h : NW P N c (nthen J Q) s α) (k : ∀ s α, J s α → K s α) : NW P N c (nthen K Q) s α :=
  nw_mono h fun e s α h => by cases e <;> first | exact k _ _ h | exact h

theorem rev_get2 (s : List Frm) (a b : Frm) (h : s.length < ((b :: s).reverse ++ [a]).length) : ((b :: s).reverse ++ [a])[s.length] = b := by
  have : (b :: s).reverse ++ [a] = s.reverse ++ [b, a] := by simp
  simp only [this]
  rw [List.getElem_append_right (by simp)]; simp

@[simp] theorem AH.set_set (α : AH) (i : Nat) (b c : Option ABlk) : (α.set i b).set i c = α.set i c := by
  simp only [AH.set, AH.mk.injEq, true_and]
  funext j
  by_cases h : j = i <;> simp [h]
theorem stack_join {N id c' : Nat} {cs : List Value} {δ : AH} {a b : Frm} {s : List Frm} (h2 : N ≤ id) (h3 : id < δ.n) (h7 : (s.length + 1 + 1) * 6 ≤ cs.length)
    (h8 : ∀ (i : Nat) (h : i < ((b :: s).reverse ++ [a]).length), frmK.R δ ((b :: s).reverse ++ [a])[i] ((cs.drop (i * 6)).take 6)) :
    Ow N 95 frmK (δ.set id (some ⟨((cs.set (s.length * 6 + 3) (.int .i64 (joinF a b).left)).set (s.length * 6 + 4) (.int .i64 (joinF a b).depth)).set (s.length * 6 + 5) (.int .i64 (joinF a b).ticks), 95, true⟩))
      (.slice (some ⟨id, 0, none⟩) (s.length + 1) c') (s.reverse ++ [joinF a b]) := by
  have := Ow.mk (N := N) (K := frmK) (xs := s.reverse ++ [joinF a b]) (c := c') h2 (show id < (δ.set id (some ⟨((cs.set (s.length * 6 + 3) (.int .i64 (joinF a b).left)).set (s.length * 6 + 4) (.int .i64 (joinF a b).depth)).set (s.length * 6 + 5) (.int .i64 (joinF a b).ticks), 95, true⟩)).n from h3) (AH.set_get _ _ _)
    (by simp [show frmK.sz = 6 from rfl]; omega) (fun i hi => ?_)
  · simpa using this
  · show _ = _
    have h8i := h8 i (by simp at hi ⊢; omega)
    have h8i : (cs.drop (i * 6)).take 6 = (((b :: s).reverse ++ [a])[i]'(by simp at hi ⊢; omega)).enc := h8i
    show ((_ : List Value).drop (i * 6)).take 6 = _
    rw [set_window (show 5 < 6 by decide), set_window (show 4 < 6 by decide), set_window (show 3 < 6 by decide)]
    have hi' : i < s.length + 1 := by simpa using hi
    by_cases e : s.length = i
    · subst e
      rw [if_pos rfl, if_pos rfl, if_pos rfl, h8i, rev_get2, rev_get]
      rfl
    · rw [if_neg e, if_neg e, if_neg e, h8i]
      have hlt : i < s.length := by omega
      congr 1
      rw [List.getElem_append_left (by simp; omega), List.getElem_append_left (by simp; omega)]
      simp only [List.reverse_cons]
      rw [List.getElem_append_left (by simp; omega)]

set_option maxRecDepth 100000 in
set_option maxHeartbeats 2000000 in
theorem measure_ok (xs : List Nd) (fin : Frm) (α : AH) (v : Value) (h : Nodes α v xs) (hl : xs.length ≤ 1000000000) (hg : ∀ x ∈ xs, 1 ≤ x.n) (hfin : xs.foldl pushF [⟨⟨0, 0, 0⟩, 1, 0, 0⟩] = [fin]) :
    NCalls Try.prog 53 [v] α (fun r α' => r = .tuple #[.int .i64 fin.depth, .int .i64 fin.ticks] ∧ Fr α.n α α') := by
  obtain ⟨id, off, hlen, hidx, hld⟩ := h.rd (t := 49) Try.underlying49 sz55
  have hk3 : nodeK.sz = 3 := rfl
  rw [hk3] at hidx hld
  refine ncalls_of (by kernel_rfl) Try.func53 rfl (by rw [Try.ntmps53]; simp) ?_
  rw [Try.ntmps53, Try.results53]
  repeat (first
    | (refine nw_seq (nw_region fun K hK => ?_); simp [hlen]; refine hK _ _ ?_; clear hK K)
    | (refine nw_region fun K hK => ?_; simp [hlen]; refine hK _ _ ?_; clear hK K)
    | refine nw_seq ?_
    | refine nw_block ?_
    | (refine nw_yes ?_ ?_; focus (simp [hlen]; done))
    | (refine nw_no ?_ ?_; focus (simp [hlen]; done))
    | refine nw_skip ?_
    | refine nw_exit ?_
    | refine nw_ret ?_)
  refine nw_loop (fun n s α' => ∃ (i : Nat) (st : List Frm), n = xs.length - i ∧ i ≤ xs.length ∧ s 12 = v ∧ s 13 = .int .i64 (xs.length : Int) ∧ s 14 = .int .i64 (i : Int) ∧ Fr α.n α α' ∧
      Ow α.n 95 frmK α' (s 4) st.reverse ∧ st.length ≤ i + 1 ∧ (∀ a ∈ st, GoodF a) ∧ (xs.drop i).foldl pushF st = [fin])
    xs.length ⟨0, [⟨⟨0, 0, 0⟩, 1, 0, 0⟩], rfl, by omega, by simp, by simp, by simp, (Fr.refl _ _).alloc (Nat.le_refl _) _, Ow.one (Nat.le_refl _) rfl _, by simp, ?_, hfin⟩ ?_
  · intro a ha
    simp at ha
    subst ha
    exact ⟨by simp, by simp, by simp⟩
  rintro n s α' ⟨i, st, rfl, hi, s12, s13, s14, hf, ho, hsl, hgd, hfo⟩
  generalize s4 : s 4 = u at ho
  by_cases c3 : i < xs.length
  · obtain ⟨b, hb, hfit, hR⟩ := hld α' hf i c3
    have hR : (b.cells.drop (off + i * 3)).take 3 = xs[i].enc := hR
    have hix := hidx .i64 i c3
    have e1 : IntKind.i64.wrap ((i : Int) + 1) = (i : Int) + 1 := w64 (by omega)
    have hxi : 1 ≤ xs[i].n := hg _ (List.getElem_mem _)
    rw [List.drop_eq_getElem_cons c3, List.foldl_cons] at hfo
    generalize hx : xs[i] = x at *
    repeat (first
      | (refine nw_seq (nw_region fun K hK => ?_); simp [s12, s13, s14, c3, hix, hb, hfit, hR, Nd.enc]; refine hK _ _ ?_; clear hK K)
      | (refine nw_region fun K hK => ?_; simp [s12, s13, s14, c3, hix, hb, hfit, hR, Nd.enc]; refine hK _ _ ?_; clear hK K)
      | refine nw_seq ?_
      | refine nw_block ?_
      | (refine nw_yes ?_ ?_; focus (simp [s12, s13, s14, c3, hix, hb, hfit, hR, Nd.enc]; done))
      | (refine nw_no ?_ ?_; focus (simp [s12, s13, s14, c3, hix, hb, hfit, hR, Nd.enc]; done))
      | refine nw_skip ?_
      | refine nw_exit ?_
      | refine nw_ret ?_)
    generalize hβ : (α'.alloc _).set α'.n _ = β
    have hq : β.get α'.n = some ⟨[.int .i64 x.k, .int .i64 x.p, .int .i64 x.n], 55, true⟩ := by rw [← hβ]; exact AH.set_get _ _ _
    have hfβ : Fr α'.n α' β := by rw [← hβ]; exact ((Fr.refl _ _).alloc (Nat.le_refl _) _).set (Nat.le_refl _) _
    have hnβ : β.n = α'.n + 1 := by rw [← hβ]; rfl
    clear hβ
    refine nw_draw (.take 0 (.take 2 (.pick (.cons 1 (.pick (.cons 3 (.take 4 (.pick (.cons 5 (.pick (.cons 6 (.take 7 (.done)) .nil)) .nil))) .nil)) (.cons 3 (.take 1 (.take 4 (.pick (.cons 5 (.pick (.cons 6 (.take 7 (.done)) .nil)) .nil)))) .nil))))) mixd (by kernel_rfl) fun K hK => ?_
    refine (fun (hJ : ∀ sJ αJ, (fun s γ => ∃ u', s 4 = u' ∧ s 6 = .pointer (some ⟨α'.n, 0, none⟩) ∧ s 12 = v ∧ s 13 = .int .i64 (xs.length : Int) ∧ s 14 = .int .i64 (i : Int) ∧ Fr α.n α γ ∧ Ow α.n 95 frmK γ u' (st.reverse ++ [⟨x, kidsM x, 0, 0⟩]) ∧ γ.get α'.n = some ⟨[.int .i64 x.k, .int .i64 x.p, .int .i64 x.n], 55, true⟩) sJ αJ → K sJ αJ) => ?_) (fun s δ hj => hK s δ ?_)
    · clear hK
      simp [s4, hq]
      have both : ∀ γ, Fr β.n β γ → ∃ v' α2, aappend Try.prog #[96, 96] u (.slice (some ⟨γ.n, 0, none⟩) 1 0) (γ.alloc ⟨[.int .i64 x.k, .int .i64 x.p, .int .i64 x.n, .int .i64 (kidsM x), .int .i64 0, .int .i64 0], 95, true⟩) = some (v', α2) ∧
          Fr α.n α α2 ∧ Ow α.n 95 frmK α2 v' (st.reverse ++ [⟨x, kidsM x, 0, 0⟩]) ∧ α2.get α'.n = some ⟨[.int .i64 x.k, .int .i64 x.p, .int .i64 x.n], 55, true⟩ := fun γ hγ => by
        have f1 : Fr α'.n α' γ := Fr.up hfβ hγ
        obtain ⟨v', α2, p1, p2, p3, p4⟩ := (ho.fr f1).push el96 (Fr.up hf f1).n (x := ⟨x, kidsM x, 0, 0⟩) rfl frm_apart (by simp; omega) 0
        exact ⟨v', α2, p1, (Fr.up hf f1).trans p3, p2, p4 _ _ (by rw [hγ.get _ (by omega)]; exact hq) (show (55 : Nat) ≠ 95 by decide) (by have := hγ.n; omega)⟩
      refine ⟨?_, ?_⟩
      · refine (kids_ok x _).mono fun r γ hr => ?_
        obtain ⟨rfl, hγ⟩ := hr
        obtain ⟨v', α2, p1, p2⟩ := both γ hγ
        simp [contK, p1]
        refine hJ _ _ ⟨v', ?_⟩
        simp [s12, s13, s14, p2]
      · refine (kids_ok x _).mono fun r γ hr => ?_
        obtain ⟨rfl, hγ⟩ := hr
        obtain ⟨v', α2, p1, p2⟩ := both γ hγ
        have : γ.get α'.n = some ⟨[.int .i64 x.k, .int .i64 x.p, .int .i64 x.n], 55, true⟩ := by rw [hγ.get _ (by omega)]; exact hq
        simp [contK, this, p1]
        refine hJ _ _ ⟨v', ?_⟩
        simp [s12, s13, s14, p2]
    clear hK K
    rename AH => γ
    obtain ⟨u', t4, t6, t12, t13, t14, hfγ, hoγ, hqγ⟩ := hj
    obtain ⟨qid, c, cs, rfl, hq1, hq2, hq3, hq4, hq5⟩ := hoγ.mem (by simp)
    have hsz : (st.reverse ++ [(⟨x, kidsM x, 0, 0⟩ : Frm)]).length = st.length + 1 := by simp
    rw [hsz] at t4 hq4
    have hc := hq5 st.length (by simp)
    rw [rev_get] at hc
    have hc3 : cs[st.length * 6 + 3]? = some (.int .i64 (kidsM x)) := take_get hc (j := 3) (show 3 < 6 by decide)
    have hf1 : st.length * 6 + 5 + 1 ≤ cs.length := by have : (st.length + 1) * 6 ≤ cs.length := hq4; omega
    have e2 : IntKind.i64.wrap (st.length : Int) = st.length := w64 (by omega)
    repeat (first
      | (refine nw_seq (nw_region fun K hK => ?_); simp [t4, t6, e2, hq3, hc3, hqγ]; refine hK _ _ ?_; clear hK K)
      | (refine nw_region fun K hK => ?_; simp [t4, t6, e2, hq3, hc3, hqγ]; refine hK _ _ ?_; clear hK K)
      | refine nw_seq ?_
      | refine nw_block ?_
      | (refine nw_yes ?_ ?_; focus (simp [t4, t6, e2, hq3, hc3, hqγ]; done))
      | (refine nw_no ?_ ?_; focus (simp [t4, t6, e2, hq3, hc3, hqγ]; done))
      | refine nw_skip ?_
      | refine nw_exit ?_
      | refine nw_ret ?_)
    refine nw_cut (J := fun s γ => s 12 = v ∧ s 13 = .int .i64 (xs.length : Int) ∧ s 14 = .int .i64 (i : Int) ∧ Fr α.n α γ ∧ Ow α.n 95 frmK γ (s 4) (st.reverse ++ [frm0 x])) ?_ ?_
    · by_cases z : kidsM x = 0
      ·
        repeat (first
          | (refine nw_seq (nw_region fun K hK => ?_); simp [t4, t6, e2, hq3, hc3, hqγ, z, hf1]; refine hK _ _ ?_; clear hK K)
          | (refine nw_region fun K hK => ?_; simp [t4, t6, e2, hq3, hc3, hqγ, z, hf1]; refine hK _ _ ?_; clear hK K)
          | refine nw_seq ?_
          | refine nw_block ?_
          | (refine nw_yes ?_ ?_; focus (simp [t4, t6, e2, hq3, hc3, hqγ, z, hf1]; done))
          | (refine nw_no ?_ ?_; focus (simp [t4, t6, e2, hq3, hc3, hqγ, z, hf1]; done))
          | refine nw_skip ?_
          | refine nw_exit ?_
          | refine nw_ret ?_)
        simp [t4, t12, t13, t14]
        refine ⟨hfγ.set hq1 _, ?_⟩
        have := Ow.put1 (N := α.n) (c := c) frm_apart hq1 hq2 hq3 (by rw [hsz]; exact hq4) hq5 st.length 5 (by decide) (.int .i64 (if x.n < 4097 then x.n else 4097)) (frm0 x) (by rw [hc]; simp [Frm.enc, frm0, z]; rfl) (st.length * 6 + 5) rfl
        rw [rev_set, hsz] at this
        exact this
      ·
        repeat (first
          | (refine nw_seq (nw_region fun K hK => ?_); simp [z]; refine hK _ _ ?_; clear hK K)
          | (refine nw_region fun K hK => ?_; simp [z]; refine hK _ _ ?_; clear hK K)
          | refine nw_seq ?_
          | refine nw_block ?_
          | (refine nw_yes ?_ ?_; focus (simp [z]; done))
          | (refine nw_no ?_ ?_; focus (simp [z]; done))
          | refine nw_skip ?_
          | refine nw_exit ?_
          | refine nw_ret ?_)
        have hfr : frm0 x = ⟨x, kidsM x, 0, 0⟩ := by simp [frm0, z]
        simp [t4, t12, t13, t14, hfr]
        refine ⟨hfγ, ?_⟩
        rw [hsz] at hoγ
        exact hoγ
    clear hc3 hc hf1 hq5 hq4 hq3 hq2 hq1 hsz hqγ t4 t6 t12 t13 t14 hfγ hoγ cs c qid
    rintro s γ ⟨t12, t13, t14, hfγ, hoγ⟩
    repeat (first
      | (refine nw_seq (nw_region fun K hK => ?_); simp []; refine hK _ _ ?_; clear hK K)
      | (refine nw_region fun K hK => ?_; simp []; refine hK _ _ ?_; clear hK K)
      | refine nw_seq ?_
      | refine nw_block ?_
      | (refine nw_yes ?_ ?_; focus (simp []; done))
      | (refine nw_no ?_ ?_; focus (simp []; done))
      | refine nw_skip ?_
      | refine nw_exit ?_
      | refine nw_ret ?_)
    refine nw_loop (fun n s γ => ∃ (a : Frm) (st2 : List Frm), n = st2.length ∧ s 12 = v ∧ s 13 = .int .i64 (xs.length : Int) ∧ s 14 = .int .i64 (i : Int) ∧ Fr α.n α γ ∧ Ow α.n 95 frmK γ (s 4) (st2.reverse ++ [a]) ∧ st2.length ≤ st.length ∧ (∀ b ∈ a :: st2, GoodF b) ∧ pops (a :: st2) = pushF st x)
      st.length ⟨frm0 x, st, rfl, t12, t13, t14, hfγ, hoγ, Nat.le_refl _, ?_, rfl⟩ ?_
    · intro b hb
      rcases List.mem_cons.1 hb with rfl | hb
      · exact frm0_good hxi
      · exact hgd _ hb
    clear t12 t13 t14 hfγ hoγ
    rintro n s γ ⟨a, st2, rfl, s12, s13, s14, hfγ, hoγ, hs2, hg2, hpo⟩
    have ho2 := hoγ
    obtain ⟨qid, c, cs, s4, hq1, hq2, hq3, hq4, hq5⟩ := hoγ.mem (by simp)
    have hsz : (st2.reverse ++ [a]).length = st2.length + 1 := by simp
    rw [hsz] at s4 hq4
    rw [s4] at ho2
    have hc := hq5 st2.length (by simp)
    rw [rev_get] at hc
    have hc3 : cs[st2.length * 6 + 3]? = some (.int .i64 a.left) := take_get hc (j := 3) (show 3 < 6 by decide)
    have e2 : IntKind.i64.wrap (st2.length : Int) = st2.length := w64 (by omega)
    have hout : pops (a :: st2) = a :: st2 → (List.drop (i + 1) xs).foldl pushF (a :: st2) = [fin] := fun h => by rw [← hfo, ← hpo, h]
    cases st2 with
    | nil =>
      repeat (first
        | (refine nw_seq (nw_region fun K hK => ?_); simp [s4, s12, s13, s14, e1]; refine hK _ _ ?_; clear hK K)
        | (refine nw_region fun K hK => ?_; simp [s4, s12, s13, s14, e1]; refine hK _ _ ?_; clear hK K)
        | refine nw_seq ?_
        | refine nw_block ?_
        | (refine nw_yes ?_ ?_; focus (simp [s4, s12, s13, s14, e1]; done))
        | (refine nw_no ?_ ?_; focus (simp [s4, s12, s13, s14, e1]; done))
        | refine nw_skip ?_
        | refine nw_exit ?_
        | refine nw_ret ?_)
      refine ⟨xs.length - (i + 1), by omega, i + 1, [a], rfl, by omega, ?_⟩
      simp [s4, s12, s13, s14, e1]
      exact ⟨hfγ, by simpa using ho2, by simpa using hg2, hout (pops_stop (.inr rfl))⟩
    | cons b2 s2 =>
      have e3 : IntKind.i64.wrap ((s2.length : Int) + 1) = s2.length + 1 := w64 (by simp at hs2; omega)
      have l1 : (1 : Int) < s2.length + 1 + 1 := by omega
      have l2 : (0 : Int) ≤ s2.length + 1 := by omega
      simp only [List.length_cons] at s4 hc3 hq4 hs2 hsz
      by_cases z : a.left = 0
      ·
        repeat (first
          | (refine nw_seq (nw_region fun K hK => ?_); simp [s4, s12, s13, s14, e3, l1, l2, hq3, hc3, z]; refine hK _ _ ?_; clear hK K)
          | (refine nw_region fun K hK => ?_; simp [s4, s12, s13, s14, e3, l1, l2, hq3, hc3, z]; refine hK _ _ ?_; clear hK K)
          | refine nw_seq ?_
          | refine nw_block ?_
          | (refine nw_yes ?_ ?_; focus (simp [s4, s12, s13, s14, e3, l1, l2, hq3, hc3, z]; done))
          | (refine nw_no ?_ ?_; focus (simp [s4, s12, s13, s14, e3, l1, l2, hq3, hc3, z]; done))
          | refine nw_skip ?_
          | refine nw_exit ?_
          | refine nw_ret ?_)
        have hf6 : (s2.length + 1) * 6 + 6 ≤ cs.length := by have : (s2.length + 1 + 1) * 6 ≤ cs.length := hq4; omega
        have hca : (cs.drop ((s2.length + 1) * 6)).take 6 = a.enc := hc
        have hcb : (cs.drop (s2.length * 6)).take 6 = b2.enc := by
          have := hq5 s2.length (by simp)
          rw [rev_get2] at this
          exact this
        have e4 : IntKind.i64.wrap ((s2.length : Int) + 1 + 1 - 2) = s2.length := by rw [w64 (by omega)]; omega
        have l3 : (s2.length : Int) < s2.length + 1 + 1 := by omega
        refine nw_draw (.take 0 (.take 1 (.take 2 (.take 3 (.take 4 (.take 6 (.take 7 (.take 8 (.take 9 (.take 10 (.pick (.cons 5 (.pick (.cons 11 (.pick (.cons 12 (.take 13 (.done)) .nil)) .nil)) (.cons 11 (.take 5 (.pick (.cons 12 (.take 13 (.done)) .nil))) .nil))))))))))))) mixd (by kernel_rfl) fun K hK => ?_
        refine (fun (hJ : ∀ sJ αJ, (fun s δ => s 4 = .slice (some ⟨qid, 0, none⟩) (s2.length + 1 + 1) c ∧ s 8 = .pointer (some ⟨γ.n, 0, none⟩) ∧ s 9 = .pointer (some ⟨qid, s2.length * 6, none⟩) ∧ s 12 = v ∧ s 13 = .int .i64 (xs.length : Int) ∧ s 14 = .int .i64 (i : Int) ∧ Fr γ.n γ δ ∧ δ.get γ.n = some ⟨a.enc, 95, true⟩ ∧ γ.n < δ.n) sJ αJ → K sJ αJ) => ?_) (fun s δ hj => hK s δ ?_)
        · clear hK
          have g0 : ∀ b, (γ.alloc b).get qid = some ⟨cs, 95, true⟩ := fun b => by rw [AH.alloc_get_ne _ _ (by omega)]; exact hq3
          simp [s4, e3, e4, l2, l3, hq3, g0, hf6, hca, Frm.enc]
          refine ⟨?_, ?_⟩ <;> refine hJ _ _ ?_ <;> simp [s4, s12, s13, s14] <;>
          exact ⟨(Fr.refl _ _).alloc (Nat.le_refl _) _ |>.set (Nat.le_refl _) _, by first | rfl | exact ⟨rfl, Nat.lt_succ_self _⟩⟩
        clear hK K
        obtain ⟨t4, t8, t9, t12, t13, t14, hfδ, hδ, hnδ⟩ := hj
        have hq3' : δ.get qid = some ⟨cs, 95, true⟩ := by rw [hfδ.get _ hq2]; exact hq3
        have hne : γ.n ≠ qid := by omega
        repeat (first
          | (refine nw_seq (nw_region fun K hK => ?_); simp [t4, e3, hq3', aslice, l2, t8, hδ, Frm.enc]; refine hK _ _ ?_; clear hK K)
          | (refine nw_region fun K hK => ?_; simp [t4, e3, hq3', aslice, l2, t8, hδ, Frm.enc]; refine hK _ _ ?_; clear hK K)
          | refine nw_seq ?_
          | refine nw_block ?_
          | (refine nw_yes ?_ ?_; focus (simp [t4, e3, hq3', aslice, l2, t8, hδ, Frm.enc]; done))
          | (refine nw_no ?_ ?_; focus (simp [t4, e3, hq3', aslice, l2, t8, hδ, Frm.enc]; done))
          | refine nw_skip ?_
          | refine nw_exit ?_
          | refine nw_ret ?_)
        have ga : GoodF a := hg2 a (by simp)
        have gb : GoodF b2 := hg2 b2 (by simp)
        have gt := tk_good ga
        refine nw_cut (J := fun s ε => s 4 = .slice (some ⟨qid, 0, none⟩) (s2.length + 1) 0 ∧ s 8 = .pointer (some ⟨γ.n, 0, none⟩) ∧ s 9 = .pointer (some ⟨qid, s2.length * 6, none⟩) ∧ s 12 = v ∧ s 13 = .int .i64 (xs.length : Int) ∧ s 14 = .int .i64 (i : Int) ∧ Fr γ.n γ ε ∧ γ.n < ε.n ∧
          ε.get γ.n = some ⟨[.int .i64 a.x.k, .int .i64 a.x.p, .int .i64 a.x.n, .int .i64 a.left, .int .i64 a.depth, .int .i64 a.tk], 95, true⟩) ?_ ?_
        · by_cases c4 : a.x.k = 4
          ·
            repeat (first
              | (refine nw_seq (nw_region fun K hK => ?_); simp [t8, hδ, Frm.enc, c4]; refine hK _ _ ?_; clear hK K)
              | (refine nw_region fun K hK => ?_; simp [t8, hδ, Frm.enc, c4]; refine hK _ _ ?_; clear hK K)
              | refine nw_seq ?_
              | refine nw_block ?_
              | (refine nw_yes ?_ ?_; focus (simp [t8, hδ, Frm.enc, c4]; done))
              | (refine nw_no ?_ ?_; focus (simp [t8, hδ, Frm.enc, c4]; done))
              | refine nw_skip ?_
              | refine nw_exit ?_
              | refine nw_ret ?_)
            refine nw_region fun K hK => ?_
            simp [t8, hδ, Frm.enc]
            refine (times_ok _ _ _ (ga.2.2 c4) ga.1 ga.2.1).mono fun r ε hr => ?_
            obtain ⟨rfl, rfl⟩ := hr
            simp [contK, t8, hδ, Frm.enc]
            refine hK _ _ ?_
            clear hK K
            simp [t4, t8, t9, t12, t13, t14, Frm.tk, c4]
            refine ⟨hfδ.set (Nat.le_refl _) _, hnδ⟩
          ·
            repeat (first
              | (refine nw_seq (nw_region fun K hK => ?_); simp [t8, hδ, Frm.enc, c4]; refine hK _ _ ?_; clear hK K)
              | (refine nw_region fun K hK => ?_; simp [t8, hδ, Frm.enc, c4]; refine hK _ _ ?_; clear hK K)
              | refine nw_seq ?_
              | refine nw_block ?_
              | (refine nw_yes ?_ ?_; focus (simp [t8, hδ, Frm.enc, c4]; done))
              | (refine nw_no ?_ ?_; focus (simp [t8, hδ, Frm.enc, c4]; done))
              | refine nw_skip ?_
              | refine nw_exit ?_
              | refine nw_ret ?_)
            simp [t4, t8, t9, t12, t13, t14, Frm.tk, c4, hδ, Frm.enc]
            exact ⟨hfδ, hnδ⟩
        clear t4 t8 t9 t12 t13 t14 hfδ hnδ hδ hq3'
        rintro s ε ⟨t4, t8, t9, t12, t13, t14, hfδ, hnδ, hδ⟩
        have hq3' : ε.get qid = some ⟨cs, 95, true⟩ := by rw [hfδ.get _ hq2]; exact hq3
        have g1 : ∀ b, (ε.set qid b).get γ.n = ε.get γ.n := fun b => AH.set_get_ne _ _ hne
        have b3 : cs[s2.length * 6 + 3]? = some (.int .i64 b2.left) := take_get hcb (j := 3) (show 3 < 6 by decide)
        have b4 : cs[s2.length * 6 + 4]? = some (.int .i64 b2.depth) := take_get hcb (j := 4) (show 4 < 6 by decide)
        have b5 : cs[s2.length * 6 + 5]? = some (.int .i64 b2.ticks) := take_get hcb (j := 5) (show 5 < 6 by decide)
        have f3 : s2.length * 6 + 3 + 1 ≤ cs.length := by omega
        have f4 : s2.length * 6 + 4 + 1 ≤ cs.length := by omega
        have f5 : s2.length * 6 + 5 + 1 ≤ cs.length := by omega
        repeat (first
          | (refine nw_seq (nw_region fun K hK => ?_); simp [t9, hq3', b3, f3]; refine hK _ _ ?_; clear hK K)
          | (refine nw_region fun K hK => ?_; simp [t9, hq3', b3, f3]; refine hK _ _ ?_; clear hK K)
          | refine nw_seq ?_
          | refine nw_block ?_
          | (refine nw_yes ?_ ?_; focus (simp [t9, hq3', b3, f3]; done))
          | (refine nw_no ?_ ?_; focus (simp [t9, hq3', b3, f3]; done))
          | refine nw_skip ?_
          | refine nw_exit ?_
          | refine nw_ret ?_)
        refine nw_draw (.take 0 (.take 1 (.take 2 (.take 3 (.take 4 (.take 5 (.take 6 (.take 7 (.take 8 (.take 9 (.take 10 (.pick (.cons 11 (.done) .nil))))))))))))) mixd (by kernel_rfl) fun K hK => ?_
        simp [t8, t9, hq3', g1, hδ, b4, f4]
        refine hK _ _ ?_
        clear hK K
        refine nw_draw (.take 0 (.take 1 (.take 2 (.take 3 (.take 4 (.take 5 (.take 6 (.pick (.cons 7 (.take 8 (.take 9 (.pick (.cons 10 (.done) .nil)))) .nil))))))))) mixd (by kernel_rfl) fun K hK => ?_
        simp [t8, t9, hq3', g1, hδ, b5, f5]
        refine (add_ok _ _ _ gb.1 gt.1 gb.2.1).mono fun r ε' hr => ?_
        obtain ⟨rfl, rfl⟩ := hr
        simp [contK, t8, t9, hq3', g1, hδ, b5, f5]
        refine hK _ _ ?_
        clear hK K
        refine ⟨s2.length, by simp, joinF a b2, s2, rfl, ?_⟩
        simp [t4, t12, t13, t14]
        have hfin' := stack_join (N := α.n) (c' := 0) hq1 (show qid < ε.n from Nat.lt_of_lt_of_le hq2 hfδ.n) hq4 (fun i hi => hq5 i (by simpa using hi))
        refine ⟨(Fr.up hfγ hfδ).set hq1 _, hfin', by omega, ?_, ?_⟩
        · exact ⟨join_good ga gb, fun d hd => hg2 d (by simp [hd])⟩
        · rw [← hpo, pops_cons z]
      ·
        repeat (first
          | (refine nw_seq (nw_region fun K hK => ?_); simp [s4, s12, s13, s14, e1, e3, l1, l2, hq3, hc3, z]; refine hK _ _ ?_; clear hK K)
          | (refine nw_region fun K hK => ?_; simp [s4, s12, s13, s14, e1, e3, l1, l2, hq3, hc3, z]; refine hK _ _ ?_; clear hK K)
          | refine nw_seq ?_
          | refine nw_block ?_
          | (refine nw_yes ?_ ?_; focus (simp [s4, s12, s13, s14, e1, e3, l1, l2, hq3, hc3, z]; done))
          | (refine nw_no ?_ ?_; focus (simp [s4, s12, s13, s14, e1, e3, l1, l2, hq3, hc3, z]; done))
          | refine nw_skip ?_
          | refine nw_exit ?_
          | refine nw_ret ?_)
        refine ⟨xs.length - (i + 1), by omega, i + 1, a :: b2 :: s2, rfl, by omega, ?_⟩
        simp [s4, s12, s13, s14, e1]
        exact ⟨hfγ, by simpa using ho2, by omega, by simpa using hg2, hout (pops_stop (.inl z))⟩
  · have : i = xs.length := by omega
    subst this
    simp at hfo
    subst hfo
    have hmem := ho.mem (by simp)
    obtain ⟨qid, c, cs, rfl, hq1, hq2, hq3, hq4, hq5⟩ := hmem
    have hc := hq5 0 (by simp)
    have hc4 : cs[4]? = some (.int .i64 fin.depth) := take_get (o := 0) hc (j := 4) (show 4 < 6 by decide)
    have hc5 : cs[5]? = some (.int .i64 fin.ticks) := take_get (o := 0) hc (j := 5) (show 5 < 6 by decide)
    simp at s4
    repeat (first
      | (refine nw_seq (nw_region fun K hK => ?_); simp [s12, s13, s14]; refine hK _ _ ?_; clear hK K)
      | (refine nw_region fun K hK => ?_; simp [s12, s13, s14]; refine hK _ _ ?_; clear hK K)
      | refine nw_seq ?_
      | refine nw_block ?_
      | (refine nw_yes ?_ ?_; focus (simp [s12, s13, s14]; done))
      | (refine nw_no ?_ ?_; focus (simp [s12, s13, s14]; done))
      | refine nw_skip ?_
      | refine nw_exit ?_
      | refine nw_ret ?_)
    refine nw_draw (.take 0 (.take 1 (.take 2 (.take 3 (.take 4 (.take 5 (.take 6 (.take 7 (.take 8 (.take 9 (.done))))))))))) mixd (by kernel_rfl) fun K hK => ?_
    simp [s4, hq3, hc4, hc5]
    refine hK _ _ ?_
    clear hK K
    repeat (first
      | (refine nw_seq (nw_region fun K hK => ?_); simp []; refine hK _ _ ?_; clear hK K)
      | (refine nw_region fun K hK => ?_; simp []; refine hK _ _ ?_; clear hK K)
      | refine nw_seq ?_
      | refine nw_block ?_
      | (refine nw_yes ?_ ?_; focus (simp []; done))
      | (refine nw_no ?_ ?_; focus (simp []; done))
      | refine nw_skip ?_
      | refine nw_exit ?_
      | refine nw_ret ?_)
    simp [hf]
end Go.Proofs.Ytggkeldedennfaa
