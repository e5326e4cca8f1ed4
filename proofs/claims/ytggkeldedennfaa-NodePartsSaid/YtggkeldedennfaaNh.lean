/- Contracts: horariumref3.Kids, depth, length. -/
import Derived.Test.YtggkeldedennfaaNg
set_option linter.unusedVariables false
set_option linter.unusedSimpArgs false
namespace Go.Proofs.Ytggkeldedennfaa
open Go Go.RowKit Go.Lay Go.Nod

abbrev Ints (α : AH) (v : Value) (xs : List Int) : Prop := Sl 3 (intK .i64) α v xs
/-- A row of ints, read. -/
theorem ints_rd {α : AH} {v : Value} {xs : List Int} (h : Ints α v xs) : ∃ id off, (alen Try.prog #[28] v = some (.int .i64 (xs.length : Int))) ∧
      (∀ (k : IntKind) (i : Nat), i < xs.length → aindexAddr Try.prog 28 v (.int k (i : Int)) = some (.pointer (some ⟨id, off + i, none⟩))) ∧
      ∀ β, Fr α.n α β → ∀ (i : Nat) (hi : i < xs.length), ∃ b, β.get id = some b ∧ b.cells[off + i]? = some (.int .i64 xs[i]) := by
  obtain ⟨id, off, hlen, hidx, hld⟩ := h.rd (t := 28) Try.underlying28 sz3
  refine ⟨id, off, hlen, fun k i hi => ?_, fun β hf i hi => ?_⟩
  · have := hidx k i hi
    rw [show (intK .i64).sz = 1 from rfl, Nat.mul_one] at this
    exact this
  · obtain ⟨b, h1, _, h3⟩ := hld β hf i hi
    rw [show (intK .i64).sz = 1 from rfl, Nat.mul_one] at h3
    exact ⟨b, h1, take_get h3 (j := 0) (by simp)⟩

set_option maxRecDepth 100000 in
theorem refKidsNo_ok (xs : List Nd) (at_ : Int) (α : AH) (v : Value) (h : Nodes α v xs) (hl : xs.length ≤ 1000000000000) (h0 : sizeM xs at_ = 0) :
    NCalls Try.prog 49 [v, .int .i64 at_] α (fun r α' => Ow α.n 3 (intK .i64) α' r [] ∧ Fr α.n α α') := by
  refine ncalls_of (by kernel_rfl) Try.func49 rfl (by rw [Try.ntmps49]; simp) ?_
  rw [Try.ntmps49, Try.results49]
  repeat (first
    | (refine nw_seq (nw_region fun K hK => ?_); simp []; refine hK _ _ ?_; clear hK K)
    | (refine nw_region fun K hK => ?_; simp []; refine hK _ _ ?_; clear hK K)
    | refine nw_seq ?_
    | refine nw_block ?_
    | (refine nw_yes ?_ ?_; focus (simp []; done))
    | (refine nw_no ?_ ?_; focus (simp []; done))
    | refine nw_skip ?_
    | refine nw_exit ?_
    | refine nw_ret ?_)
  refine nw_region fun K hK => ?_
  simp []
  refine (refSize_ok xs at_ _ v h hl).mono fun r β hr => ?_
  obtain ⟨rfl, hf⟩ := hr
  simp [contK, h0]
  refine hK _ _ ?_
  clear hK K
  repeat (first
    | (refine nw_seq (nw_region fun K hK => ?_); simp []; refine hK _ _ ?_; clear hK K)
    | (refine nw_region fun K hK => ?_; simp []; refine hK _ _ ?_; clear hK K)
    | refine nw_seq ?_
    | refine nw_block ?_
    | (refine nw_yes ?_ ?_; focus (simp []; done))
    | (refine nw_no ?_ ?_; focus (simp []; done))
    | refine nw_skip ?_
    | refine nw_exit ?_
    | refine nw_ret ?_)
  simp [hf]
  exact .nil

set_option maxRecDepth 100000 in
theorem refKidsAt_ok (xs : List Nd) (j : Nat) (x : Nd) (ks : F) (α : AH) (v : Value) (h : Nodes α v xs) (hl : xs.length ≤ 1000000000000) (h0 : At xs j x ks) :
    NCalls Try.prog 49 [v, .int .i64 (j : Int)] α (fun r α' => Ow α.n 3 (intK .i64) α' r ((F.places (j + 1) ks).map Int.ofNat) ∧ Fr α.n α α') := by
  have hlt := h0.lt
  refine ncalls_of (by kernel_rfl) Try.func49 rfl (by rw [Try.ntmps49]; simp) ?_
  rw [Try.ntmps49, Try.results49]
  repeat (first
    | (refine nw_seq (nw_region fun K hK => ?_); simp []; refine hK _ _ ?_; clear hK K)
    | (refine nw_region fun K hK => ?_; simp []; refine hK _ _ ?_; clear hK K)
    | refine nw_seq ?_
    | refine nw_block ?_
    | (refine nw_yes ?_ ?_; focus (simp []; done))
    | (refine nw_no ?_ ?_; focus (simp []; done))
    | refine nw_skip ?_
    | refine nw_exit ?_
    | refine nw_ret ?_)
  refine nw_region fun K hK => ?_
  simp []
  refine (refSize_ok xs j _ v h hl).mono fun r β hr => ?_
  obtain ⟨rfl, hf⟩ := hr
  rw [h0.size]
  simp [contK, ]
  refine hK _ _ ?_
  clear hK K
  have e1 : IntKind.i64.wrap ((j : Int) + 1) = (j : Int) + 1 := w64 (by omega)
  have e2 : IntKind.i64.wrap ((j : Int) + (ks.flat.length + 1)) = (j : Int) + (ks.flat.length + 1) := w64 (by omega)
  have b0 : (((ks.flat.length : Int) + 1) == 0) = false := by simp; omega
  have b0' : ¬ ((ks.flat.length : Int) + 1 = 0) := by omega
  repeat (first
    | (refine nw_seq (nw_region fun K hK => ?_); simp [e1, b0, b0']; refine hK _ _ ?_; clear hK K)
    | (refine nw_region fun K hK => ?_; simp [e1, b0, b0']; refine hK _ _ ?_; clear hK K)
    | refine nw_seq ?_
    | refine nw_block ?_
    | (refine nw_yes ?_ ?_; focus (simp [e1, b0, b0']; done))
    | (refine nw_no ?_ ?_; focus (simp [e1, b0, b0']; done))
    | refine nw_skip ?_
    | refine nw_exit ?_
    | refine nw_ret ?_)
  refine nw_loop (fun n s α' => ∃ (p : Nat) (r : F) (ys : List Int), n = r.cnt ∧ Lies xs p r ∧ p + r.flat.length = j + 1 + ks.flat.length ∧ s 0 = v ∧ s 1 = .int .i64 (j : Int) ∧ s 5 = .int .i64 ((ks.flat.length : Int) + 1) ∧ s 7 = .int .i64 (p : Int) ∧ Fr α.n α α' ∧
      Ow α.n 3 (intK .i64) α' (s 6) ys ∧ ys.length ≤ p ∧ ys ++ (F.places p r).map Int.ofNat = (F.places (j + 1) ks).map Int.ofNat)
    ks.cnt ⟨j + 1, ks, [], rfl, h0.kids, rfl, by simp, by simp, by simp, by simp, hf, by simp; exact .nil, by simp, by simp⟩ ?_
  rintro n s α' ⟨p, r, ys, rfl, hL, hp, s0, s1, s5, s7, hf', ho, hy, hys⟩
  cases r with
  | nil =>
    have c1 : ¬ ((p : Int) < j + (ks.flat.length + 1)) := by simp [F.flat] at hp; omega
    repeat (first
      | (refine nw_seq (nw_region fun K hK => ?_); simp [s0, s1, s5, s7, e2, c1]; refine hK _ _ ?_; clear hK K)
      | (refine nw_region fun K hK => ?_; simp [s0, s1, s5, s7, e2, c1]; refine hK _ _ ?_; clear hK K)
      | refine nw_seq ?_
      | refine nw_block ?_
      | (refine nw_yes ?_ ?_; focus (simp [s0, s1, s5, s7, e2, c1]; done))
      | (refine nw_no ?_ ?_; focus (simp [s0, s1, s5, s7, e2, c1]; done))
      | refine nw_skip ?_
      | refine nw_exit ?_
      | refine nw_ret ?_)
    simp [F.places] at hys
    simp [hf', ← hys]
    exact ho
  | cons z zs r =>
    obtain ⟨hA, hL'⟩ := hL.head
    have c1 : (p : Int) < j + (ks.flat.length + 1) := by simp [F.flat] at hp; omega
    have hAl := hA.lt
    obtain ⟨v', α2, hp1, hp2, hp3, -⟩ := ho.push el28 hf'.n (x := (p : Int)) (c := [.int .i64 (p : Int)]) rfl (intK_apart _ _) (by omega) 0
    have hf2 : Fr α.n α α2 := hf'.trans hp3
    have e3 : IntKind.i64.wrap ((p : Int) + (zs.flat.length + 1)) = (p : Int) + (zs.flat.length + 1) := w64 (by omega)
    repeat (first
      | (refine nw_seq (nw_region fun K hK => ?_); simp [s0, s1, s5, s7, e2, c1, hp1]; refine hK _ _ ?_; clear hK K)
      | (refine nw_region fun K hK => ?_; simp [s0, s1, s5, s7, e2, c1, hp1]; refine hK _ _ ?_; clear hK K)
      | refine nw_seq ?_
      | refine nw_block ?_
      | (refine nw_yes ?_ ?_; focus (simp [s0, s1, s5, s7, e2, c1, hp1]; done))
      | (refine nw_no ?_ ?_; focus (simp [s0, s1, s5, s7, e2, c1, hp1]; done))
      | refine nw_skip ?_
      | refine nw_exit ?_
      | refine nw_ret ?_)
    refine nw_region fun K hK => ?_
    simp [s0, s7]
    refine (refSize_ok xs p _ v (h.fr hf2) hl).mono fun w β2 hw => ?_
    obtain ⟨rfl, hf3⟩ := hw
    rw [hA.size]
    simp [contK, s7, e3]
    refine hK _ _ ?_
    clear hK K
    refine ⟨r.cnt, by simp [F.cnt], p + (zs.flat.length + 1), r, ys ++ [(p : Int)], rfl, hL', by simp [F.flat] at hp; omega, ?_⟩
    simp [s0, s1, s5]
    refine ⟨Fr.up hf2 hf3, hp2.fr hf3, by omega, ?_⟩
    rw [← hys]
    simp [F.places]

theorem drop_head {l : List Int} {i : Nat} {a : Int} {t : List Int} (h : l.drop i = a :: t) : ∃ hi : i < l.length, l[i] = a ∧ l.drop (i + 1) = t := by
  have hi : i < l.length := by
    rcases Nat.lt_or_ge i l.length with h' | h'
    · exact h'
    · rw [List.drop_eq_nil_of_le h'] at h; cases h
  rw [List.drop_eq_getElem_cons hi] at h
  injection h with h1 h2
  exact ⟨hi, h1, h2⟩

theorem places_len : ∀ (f : F) (p : Nat), (F.places p f).length ≤ f.flat.length
  | .nil, p => by simp [F.places, F.flat]
  | .cons x ks r, p => by
    have := places_len r (p + (ks.flat.length + 1))
    simp only [F.places, F.flat, List.length_cons, List.length_append]
    omega

set_option maxRecDepth 100000 in
theorem refDepth_ok : ∀ (n : Nat) (xs : List Nd) (j : Nat) (x : Nd) (ks : F) (α : AH) (v : Value), ks.flat.length = n → Nodes α v xs → xs.length ≤ 1000000000000 → At xs j x ks →
    NCalls Try.prog 62 [v, .int .i64 (j : Int)] α (fun r α' => r = .int .i64 ((ks.dep : Int) + 1) ∧ Fr α.n α α') := by
  intro n
  induction n using Nat.strongRecOn with
  | _ n ih =>
  intro xs j x ks α v hn h hl h0
  have hlt := h0.lt
  have hdl := F.dep_le ks
  refine ncalls_of (by kernel_rfl) Try.func62 rfl (by rw [Try.ntmps62]; simp) ?_
  rw [Try.ntmps62, Try.results62]
  repeat (first
    | (refine nw_seq (nw_region fun K hK => ?_); simp []; refine hK _ _ ?_; clear hK K)
    | (refine nw_region fun K hK => ?_; simp []; refine hK _ _ ?_; clear hK K)
    | refine nw_seq ?_
    | refine nw_block ?_
    | (refine nw_yes ?_ ?_; focus (simp []; done))
    | (refine nw_no ?_ ?_; focus (simp []; done))
    | refine nw_skip ?_
    | refine nw_exit ?_
    | refine nw_ret ?_)
  refine nw_region fun K hK => ?_
  simp []
  refine (refKidsAt_ok xs j x ks _ v h hl h0).mono fun kv β hr => ?_
  obtain ⟨ho, hf⟩ := hr
  obtain ⟨id, off, hlen, hidx, hld⟩ := ints_rd ho.sl
  have hpl := places_len ks (j + 1)
  generalize hkl : (F.places (j + 1) ks).map Int.ofNat = kl at *
  have hkll : kl.length ≤ ks.flat.length := by rw [← hkl, List.length_map]; exact hpl
  simp [contK, hlen]
  refine hK _ _ ?_
  clear hK K
  repeat (first
    | (refine nw_seq (nw_region fun K hK => ?_); simp []; refine hK _ _ ?_; clear hK K)
    | (refine nw_region fun K hK => ?_; simp []; refine hK _ _ ?_; clear hK K)
    | refine nw_seq ?_
    | refine nw_block ?_
    | (refine nw_yes ?_ ?_; focus (simp []; done))
    | (refine nw_no ?_ ?_; focus (simp []; done))
    | refine nw_skip ?_
    | refine nw_exit ?_
    | refine nw_ret ?_)
  refine nw_loop (fun n s α' => ∃ (i p : Nat) (r : F) (m : Int), n = kl.length - i ∧ i ≤ kl.length ∧ Lies xs p r ∧ r.flat.length ≤ ks.flat.length ∧ kl.drop i = (F.places p r).map Int.ofNat ∧ s 0 = v ∧ s 5 = .int .i64 m ∧ s 10 = kv ∧ s 11 = .int .i64 (kl.length : Int) ∧ s 12 = .int .i64 (i : Int) ∧
      Fr β.n β α' ∧ 0 ≤ m ∧ max m r.dep = ks.dep)
    kl.length ⟨0, j + 1, ks, 0, rfl, by omega, h0.kids, Nat.le_refl _, by simp [hkl], by simp, by simp, by simp, by simp, by simp, .refl _ _, by omega, by omega⟩ ?_
  rintro n s α' ⟨i, p, r, m, rfl, hi, hL, hrl, hd, s0, s5, s10, s11, s12, hf', hm0, hm⟩
  cases r with
  | nil =>
    have : i = kl.length := by
      have := congrArg List.length hd
      simp [F.places] at this
      omega
    subst this
    simp only [F.dep] at hm
    have e1 : IntKind.i64.wrap (m + 1) = (ks.dep : Int) + 1 := by rw [w64 (by omega)]; omega
    repeat (first
      | (refine nw_seq (nw_region fun K hK => ?_); simp [s11, s12, s5, e1]; refine hK _ _ ?_; clear hK K)
      | (refine nw_region fun K hK => ?_; simp [s11, s12, s5, e1]; refine hK _ _ ?_; clear hK K)
      | refine nw_seq ?_
      | refine nw_block ?_
      | (refine nw_yes ?_ ?_; focus (simp [s11, s12, s5, e1]; done))
      | (refine nw_no ?_ ?_; focus (simp [s11, s12, s5, e1]; done))
      | refine nw_skip ?_
      | refine nw_exit ?_
      | refine nw_ret ?_)
    simp
    exact Fr.up hf hf'
  | cons z zs r =>
    obtain ⟨hA, hL'⟩ := hL.head
    obtain ⟨hil, hget, hd'⟩ := drop_head (by simpa [F.places] using hd)
    have hil' : (i : Int) < kl.length := by omega
    have hix := hidx .i64 i hil
    obtain ⟨b, hb, hc⟩ := hld _ hf' i hil
    rw [hget] at hc
    have e1 : IntKind.i64.wrap ((i : Int) + 1) = (i : Int) + 1 := w64 (by omega)
    simp only [F.flat, List.length_cons, List.length_append] at hrl
    repeat (first
      | (refine nw_seq (nw_region fun K hK => ?_); simp [s10, s11, s12, hil', hix, hb, hc]; refine hK _ _ ?_; clear hK K)
      | (refine nw_region fun K hK => ?_; simp [s10, s11, s12, hil', hix, hb, hc]; refine hK _ _ ?_; clear hK K)
      | refine nw_seq ?_
      | refine nw_block ?_
      | (refine nw_yes ?_ ?_; focus (simp [s10, s11, s12, hil', hix, hb, hc]; done))
      | (refine nw_no ?_ ?_; focus (simp [s10, s11, s12, hil', hix, hb, hc]; done))
      | refine nw_skip ?_
      | refine nw_exit ?_
      | refine nw_ret ?_)
    refine nw_region fun K hK => ?_
    simp [s0, s5]
    refine (ih zs.flat.length (by omega) xs p z zs _ v rfl (h.fr (Fr.up hf hf')) hl hA).mono fun w γ hw => ?_
    obtain ⟨rfl, hg⟩ := hw
    simp [contK, s0, s5]
    refine hK _ _ ?_
    clear hK K
    repeat (first
      | (refine nw_seq (nw_region fun K hK => ?_); simp [s12, e1]; refine hK _ _ ?_; clear hK K)
      | (refine nw_region fun K hK => ?_; simp [s12, e1]; refine hK _ _ ?_; clear hK K)
      | refine nw_seq ?_
      | refine nw_block ?_
      | (refine nw_yes ?_ ?_; focus (simp [s12, e1]; done))
      | (refine nw_no ?_ ?_; focus (simp [s12, e1]; done))
      | refine nw_skip ?_
      | refine nw_exit ?_
      | refine nw_ret ?_)
    refine ⟨kl.length - (i + 1), by omega, i + 1, p + (zs.flat.length + 1), r, (if m < (zs.dep : Int) + 1 then (zs.dep : Int) + 1 else m), rfl, by omega, hL', by omega, hd', ?_⟩
    simp [s0, s10, s11]
    simp only [F.dep] at hm
    refine ⟨Fr.up hf' hg, by split <;> omega, by split <;> omega⟩

theorem step_len {m a b : Int} (h0 : 0 ≤ m) (ha : 0 ≤ a) (hb : 0 ≤ b) : min 4097 (min (m + min 4097 a) 4097 + b) = min 4097 (m + (a + b)) := by omega

set_option maxRecDepth 100000 in
set_option maxHeartbeats 1000000 in
theorem refLength_ok : ∀ (n : Nat) (xs : List Nd) (j : Nat) (x : Nd) (ks : F) (α : AH) (v : Value), ks.flat.length = n → Nodes α v xs → xs.length ≤ 1000000000000 → At xs j x ks →
    NCalls Try.prog 61 [v, .int .i64 (j : Int)] α (fun r α' => r = .int .i64 (min 4097 (val x ks.len)) ∧ Fr α.n α α') := by
  intro n
  induction n using Nat.strongRecOn with
  | _ n ih =>
  intro xs j x ks α v hn h hl h0
  have hlt := h0.lt
  obtain ⟨hok1, hok2, -⟩ := h0.1
  have hlp := F.len_pos ks hok2
  have hxn := kids_n hok1
  obtain ⟨nid, noff, -, nidx, nld⟩ := h.rd (t := 49) Try.underlying49 sz55
  have hk3 : nodeK.sz = 3 := rfl
  rw [hk3] at nidx nld
  refine ncalls_of (by kernel_rfl) Try.func61 rfl (by rw [Try.ntmps61]; simp) ?_
  rw [Try.ntmps61, Try.results61]
  repeat (first
    | (refine nw_seq (nw_region fun K hK => ?_); simp []; refine hK _ _ ?_; clear hK K)
    | (refine nw_region fun K hK => ?_; simp []; refine hK _ _ ?_; clear hK K)
    | refine nw_seq ?_
    | refine nw_block ?_
    | (refine nw_yes ?_ ?_; focus (simp []; done))
    | (refine nw_no ?_ ?_; focus (simp []; done))
    | refine nw_skip ?_
    | refine nw_exit ?_
    | refine nw_ret ?_)
  refine nw_region fun K hK => ?_
  simp []
  refine (refKidsAt_ok xs j x ks _ v h hl h0).mono fun kv β hr => ?_
  obtain ⟨ho, hf⟩ := hr
  obtain ⟨id, off, hlen, hidx, hld⟩ := ints_rd ho.sl
  have hpl := places_len ks (j + 1)
  generalize hkl : (F.places (j + 1) ks).map Int.ofNat = kl at *
  have hkll : kl.length ≤ ks.flat.length := by rw [← hkl, List.length_map]; exact hpl
  simp [contK, hlen]
  refine hK _ _ ?_
  clear hK K
  repeat (first
    | (refine nw_seq (nw_region fun K hK => ?_); simp []; refine hK _ _ ?_; clear hK K)
    | (refine nw_region fun K hK => ?_; simp []; refine hK _ _ ?_; clear hK K)
    | refine nw_seq ?_
    | refine nw_block ?_
    | (refine nw_yes ?_ ?_; focus (simp []; done))
    | (refine nw_no ?_ ?_; focus (simp []; done))
    | refine nw_skip ?_
    | refine nw_exit ?_
    | refine nw_ret ?_)
  refine nw_loop (fun n s α' => ∃ (i p : Nat) (r : F) (m : Int), n = kl.length - i ∧ i ≤ kl.length ∧ Lies xs p r ∧ r.flat.length ≤ ks.flat.length ∧ kl.drop i = (F.places p r).map Int.ofNat ∧ s 0 = v ∧ s 1 = .int .i64 (j : Int) ∧ s 5 = .int .i64 m ∧ s 10 = kv ∧ s 11 = .int .i64 (kl.length : Int) ∧ s 12 = .int .i64 (i : Int) ∧
      Fr β.n β α' ∧ 0 ≤ m ∧ m ≤ 4097 ∧ min 4097 (m + r.len) = min 4097 ks.len)
    kl.length ⟨0, j + 1, ks, 0, rfl, by omega, h0.kids, Nat.le_refl _, by simp [hkl], by simp, by simp, by simp, by simp, by simp, by simp, .refl _ _, by omega, by omega, by omega⟩ ?_
  rintro n s α' ⟨i, p, r, m, rfl, hi, hL, hrl, hd, s0, s1, s5, s10, s11, s12, hf', hm0, hm1, hm⟩
  cases r with
  | nil =>
    have : i = kl.length := by
      have := congrArg List.length hd
      simp [F.places] at this
      omega
    subst this
    simp only [F.len] at hm
    have hjl : j < xs.length := by omega
    obtain ⟨b, hb, _, hR⟩ := nld _ (Fr.up hf hf') j hjl
    rw [h0.get hjl] at hR
    have x0 : b.cells[noff + j * 3]? = some (.int .i64 x.k) := take_get hR (j := 0) (show 0 < 3 by decide)
    have x2 : b.cells[noff + j * 3 + 2]? = some (.int .i64 x.n) := take_get hR (j := 2) (show 2 < 3 by decide)
    have nix := nidx .i64 j hjl
    by_cases d3 : x.k = 3
    ·
      repeat (first
        | (refine nw_seq (nw_region fun K hK => ?_); simp [s0, s1, s5, s11, s12, nix, hb, x0, d3]; refine hK _ _ ?_; clear hK K)
        | (refine nw_region fun K hK => ?_; simp [s0, s1, s5, s11, s12, nix, hb, x0, d3]; refine hK _ _ ?_; clear hK K)
        | refine nw_seq ?_
        | refine nw_block ?_
        | (refine nw_yes ?_ ?_; focus (simp [s0, s1, s5, s11, s12, nix, hb, x0, d3]; done))
        | (refine nw_no ?_ ?_; focus (simp [s0, s1, s5, s11, s12, nix, hb, x0, d3]; done))
        | refine nw_skip ?_
        | refine nw_exit ?_
        | refine nw_ret ?_)
      simp [val, d3]
      exact ⟨by omega, Fr.up hf hf'⟩
    by_cases d4 : x.k = 4
    · have hmm := min_mul x.n ks.len hxn (by omega)
      have e0 : (if 4097 < x.n then 4097 else x.n) = min 4097 x.n := by split <;> omega
      have hm' : m = min 4097 ks.len := by omega
      have q1 : m * min 4097 x.n ≤ 4097 * 4097 := Int.mul_le_mul hm1 (by omega) (by omega) (by omega)
      have q0 : 0 ≤ m * min 4097 x.n := Int.mul_nonneg hm0 (by omega)
      have e1 : IntKind.i64.wrap (m * min 4097 x.n) = m * min 4097 x.n := w64 (by omega)
      repeat (first
        | (refine nw_seq (nw_region fun K hK => ?_); simp [s0, s1, s5, s11, s12, nix, hb, x0, x2, d3, d4, e0, e1]; refine hK _ _ ?_; clear hK K)
        | (refine nw_region fun K hK => ?_; simp [s0, s1, s5, s11, s12, nix, hb, x0, x2, d3, d4, e0, e1]; refine hK _ _ ?_; clear hK K)
        | refine nw_seq ?_
        | refine nw_block ?_
        | (refine nw_yes ?_ ?_; focus (simp [s0, s1, s5, s11, s12, nix, hb, x0, x2, d3, d4, e0, e1]; done))
        | (refine nw_no ?_ ?_; focus (simp [s0, s1, s5, s11, s12, nix, hb, x0, x2, d3, d4, e0, e1]; done))
        | refine nw_skip ?_
        | refine nw_exit ?_
        | refine nw_ret ?_)
      simp [val, d3, d4]
      refine ⟨?_, Fr.up hf hf'⟩
      rw [← hmm, ← hm', Int.mul_comm m]
      split <;> omega
    · have e0 : (if 4097 < x.n then 4097 else x.n) = min 4097 x.n := by split <;> omega
      repeat (first
        | (refine nw_seq (nw_region fun K hK => ?_); simp [s0, s1, s5, s11, s12, nix, hb, x0, x2, d3, d4, e0]; refine hK _ _ ?_; clear hK K)
        | (refine nw_region fun K hK => ?_; simp [s0, s1, s5, s11, s12, nix, hb, x0, x2, d3, d4, e0]; refine hK _ _ ?_; clear hK K)
        | refine nw_seq ?_
        | refine nw_block ?_
        | (refine nw_yes ?_ ?_; focus (simp [s0, s1, s5, s11, s12, nix, hb, x0, x2, d3, d4, e0]; done))
        | (refine nw_no ?_ ?_; focus (simp [s0, s1, s5, s11, s12, nix, hb, x0, x2, d3, d4, e0]; done))
        | refine nw_skip ?_
        | refine nw_exit ?_
        | refine nw_ret ?_)
      simp [val, d3, d4]
      exact Fr.up hf hf'
  | cons z zs r =>
    obtain ⟨hA, hL'⟩ := hL.head
    obtain ⟨hil, hget, hd'⟩ := drop_head (by simpa [F.places] using hd)
    have hil' : (i : Int) < kl.length := by omega
    have hix := hidx .i64 i hil
    obtain ⟨b, hb, hc⟩ := hld _ hf' i hil
    rw [hget] at hc
    obtain ⟨hz1, hz2, hz3⟩ := hL.1
    have hv0 : 1 ≤ val z zs.len := by have := F.len_pos (F.cons z zs .nil) ⟨hz1, hz2, trivial⟩; simp [F.cnt, F.len] at this; omega
    have hr0 := F.len_pos r hz3
    have e1 : IntKind.i64.wrap ((i : Int) + 1) = (i : Int) + 1 := w64 (by omega)
    have e2 : IntKind.i64.wrap (m + min 4097 (val z zs.len)) = m + min 4097 (val z zs.len) := w64 (by omega)
    simp only [F.flat, List.length_cons, List.length_append] at hrl
    repeat (first
      | (refine nw_seq (nw_region fun K hK => ?_); simp [s10, s11, s12, hil', hix, hb, hc]; refine hK _ _ ?_; clear hK K)
      | (refine nw_region fun K hK => ?_; simp [s10, s11, s12, hil', hix, hb, hc]; refine hK _ _ ?_; clear hK K)
      | refine nw_seq ?_
      | refine nw_block ?_
      | (refine nw_yes ?_ ?_; focus (simp [s10, s11, s12, hil', hix, hb, hc]; done))
      | (refine nw_no ?_ ?_; focus (simp [s10, s11, s12, hil', hix, hb, hc]; done))
      | refine nw_skip ?_
      | refine nw_exit ?_
      | refine nw_ret ?_)
    refine nw_region fun K hK => ?_
    simp [s0, s5]
    refine (ih zs.flat.length (by omega) xs p z zs _ v rfl (h.fr (Fr.up hf hf')) hl hA).mono fun w γ hw => ?_
    obtain ⟨rfl, hg⟩ := hw
    simp [contK, s0, s5, e2]
    refine hK _ _ ?_
    clear hK K
    repeat (first
      | (refine nw_seq (nw_region fun K hK => ?_); simp [s12, e1]; refine hK _ _ ?_; clear hK K)
      | (refine nw_region fun K hK => ?_; simp [s12, e1]; refine hK _ _ ?_; clear hK K)
      | refine nw_seq ?_
      | refine nw_block ?_
      | (refine nw_yes ?_ ?_; focus (simp [s12, e1]; done))
      | (refine nw_no ?_ ?_; focus (simp [s12, e1]; done))
      | refine nw_skip ?_
      | refine nw_exit ?_
      | refine nw_ret ?_)
    refine ⟨kl.length - (i + 1), by omega, i + 1, p + (zs.flat.length + 1), r, (if 4097 < m + min 4097 (val z zs.len) then 4097 else m + min 4097 (val z zs.len)), rfl, by omega, hL', by omega, hd', ?_⟩
    simp [s0, s1, s10, s11]
    simp only [F.len] at hm
    refine ⟨Fr.up hf' hg, by split <;> omega, by split <;> omega, ?_⟩
    rw [← hm, ← step_len hm0 (by omega : 0 ≤ val z zs.len) (by omega : 0 ≤ r.len)]
    congr 2
    split <;> omega
end Go.Proofs.Ytggkeldedennfaa
