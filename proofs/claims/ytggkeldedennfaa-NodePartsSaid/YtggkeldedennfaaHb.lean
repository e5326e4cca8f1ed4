/- Plain law: a table's tree is one; its leaves. Contracts: horariumref3.leaves, Leaves, Of. -/
import Derived.Test.YtggkeldedennfaaHa
import Derived.Test.YtggkeldedennfaaNi
import Derived.Test.YtggkeldedennfaaGe
set_option linter.unusedVariables false
set_option linter.unusedSimpArgs false
namespace Go.Nod
/-- A row is of one forest alone. -/
theorem F.uniq : ∀ (f g : F), f.ok → g.ok → f.cnt = g.cnt → ∀ ys zs, f.flat ++ ys = g.flat ++ zs → f = g ∧ ys = zs
  | .nil, .nil, _, _, _, ys, zs, h => ⟨rfl, by simpa [F.flat] using h⟩
  | .nil, .cons _ _ _, _, _, h, _, _, _ => by simp [F.cnt] at h
  | .cons _ _ _, .nil, _, _, h, _, _, _ => by simp [F.cnt] at h
  | .cons x ks r, .cons x' ks' r', ⟨a1, a2, a3⟩, ⟨b1, b2, b3⟩, hc, ys, zs, h => by
    simp only [F.flat, List.cons_append, List.cons.injEq, List.append_assoc] at h
    obtain ⟨rfl, h⟩ := h
    obtain ⟨e1, h1⟩ := F.uniq ks ks' a2 b2 (by omega) _ _ h
    obtain ⟨e2, h2⟩ := F.uniq r r' a3 b3 (by simp [F.cnt] at hc; omega) _ _ h1
    exact ⟨by rw [e1, e2], h2⟩
open Classical in
noncomputable def jg (xs : List Nd) : Bool × Int × Int := ⟨Classical.choose (judged xs), Classical.choose (Classical.choose_spec (judged xs)), Classical.choose (Classical.choose_spec (Classical.choose_spec (judged xs)))⟩
theorem jg_spec (xs : List Nd) : Judged xs (jg xs).1 (jg xs).2.1 (jg xs).2.2 := Classical.choose_spec (Classical.choose_spec (Classical.choose_spec (judged xs)))
/-- why a table may not be: 0: it may -/
noncomputable def rtM (xs : List Nd) : Int := rightM xs.length (jg xs).1 (jg xs).2.1 (jg xs).2.2
open Classical in
noncomputable def rootM (xs : List Nd) : Nd × F := if h : ∃ p : Nd × F, (F.cons p.1 p.2 .nil).ok ∧ xs = p.1 :: p.2.flat then Classical.choose h else (⟨0, 0, 0⟩, .nil)
theorem rootM_eq {x : Nd} {ks : F} (h : (F.cons x ks .nil).ok) : rootM (x :: ks.flat) = (x, ks) := by
  have he : ∃ p : Nd × F, (F.cons p.1 p.2 .nil).ok ∧ x :: ks.flat = p.1 :: p.2.flat := ⟨(x, ks), h, rfl⟩
  rw [rootM, dif_pos he]
  obtain ⟨h1, h2⟩ := Classical.choose_spec he
  have := (F.uniq (.cons _ _ .nil) (.cons _ _ .nil) h h1 rfl [] [] (by simpa [F.flat] using h2)).1
  injection this with a b _
  exact Prod.ext a.symm b.symm
mutual
def lvN (x : Nd) : F → List Rn
  | ks => if x.k = 1 then [⟨x.p, x.n⟩] else if x.k = 2 then [⟨-1, x.n⟩] else if x.k = 4 then (List.replicate x.n.toNat (lvF ks)).flatten else lvF ks
def lvF : F → List Rn
  | .nil => []
  | .cons x ks r => lvN x ks ++ lvF r
end
noncomputable def leavesM (xs : List Nd) : List Rn := lvN (rootM xs).1 (rootM xs).2
noncomputable def ofM (xs : List Nd) : List Rn × Int := if rtM xs ≠ 0 then ([], rtM xs) else if 96 < (tidyM (leavesM xs)).length then ([], 3) else (tidyM (leavesM xs), 0)
theorem rt_root {xs : List Nd} (h : rtM xs = 0) : ∃ x ks, (F.cons x ks .nil).ok ∧ xs = x :: ks.flat ∧ rootM xs = (x, ks) ∧ xs.length ≤ 128 ∧ ks.dep + 1 ≤ 16 ∧ val x ks.len ≤ 4096 := by
  have hj := jg_spec xs
  unfold rtM rightM at h
  split at h
  · omega
  · split at h
    · omega
    · split at h
      · omega
      · split at h
        · omega
        · rcases hj with ⟨h0, _⟩ | ⟨_, _, _, x, ks, h1, h2, h3, h4⟩
          · simp_all
          · exact ⟨x, ks, h1, h2, by rw [h2]; exact rootM_eq h1, by omega, by omega, by omega⟩
theorem lv_len : ∀ (f : F), f.ok → ((lvF f).length : Int) ≤ f.len ∧ ∀ r ∈ lvF f, 1 ≤ r.n ∧ r.n ≤ f.len
  | .nil, _ => by simp [lvF, F.len]
  | .cons x ks r, ⟨h1, h2, h3⟩ => by
    obtain ⟨i1, i2⟩ := lv_len ks h2
    obtain ⟨j1, j2⟩ := lv_len r h3
    have hn := kids_n h1
    have p1 := F.len_pos ks h2
    have p2 := F.len_pos r h3
    have node : ((lvN x ks).length : Int) ≤ val x ks.len ∧ ∀ r ∈ lvN x ks, 1 ≤ r.n ∧ r.n ≤ val x ks.len := by
      unfold lvN val
      split
      · rw [if_neg (by omega), if_neg (by omega)]; simp; omega
      · split
        · rw [if_neg (by omega), if_neg (by omega)]; simp; omega
        · split
          · rw [if_neg (by omega)]
            obtain ⟨n, hn'⟩ := Int.eq_ofNat_of_zero_le (show 0 ≤ x.n by omega)
            rw [hn']
            have hm : (n : Int) * (lvF ks).length ≤ n * ks.len := Int.mul_le_mul_of_nonneg_left i1 (by omega)
            have h1' : 1 * ks.len ≤ (n : Int) * ks.len := Int.mul_le_mul_of_nonneg_right (by omega) (by omega)
            refine ⟨by simpa using hm, fun r hr => ?_⟩
            simp only [List.mem_flatten, List.mem_replicate] at hr
            obtain ⟨l, ⟨_, rfl⟩, hr⟩ := hr
            obtain ⟨a, b⟩ := i2 r hr
            exact ⟨a, by omega⟩
          · split
            · exact ⟨i1, i2⟩
            · rename_i h3' h4' h5' h6'
              have := kids_pos (x := x)
              have h0 : kidsM x = 0 := by
                rcases Int.lt_or_le 0 (kidsM x) with h | h
                · rcases this h with h | h <;> omega
                · omega
              have : ks = .nil := F.cnt_zero (by omega)
              subst this
              simp [lvF]; omega
    simp only [lvF, F.len, List.length_append, List.mem_append]
    refine ⟨by omega, fun r hr => ?_⟩
    rcases hr with hr | hr
    · have := node.2 r hr; omega
    · have := j2 r hr
      have v0 : 0 ≤ val x ks.len := by omega
      omega
theorem lvN_len {x : Nd} {ks : F} (h : (F.cons x ks .nil).ok) : ((lvN x ks).length : Int) ≤ val x ks.len ∧ ∀ r ∈ lvN x ks, 1 ≤ r.n ∧ r.n ≤ val x ks.len := by
  have := lv_len _ h
  simpa [lvF, F.len] using this
theorem kids_four {x : Nd} {k : Nat} (h : kidsM x = k) : (x.k = 1 → 0 ≤ x.p ∧ x.p < 6) ∧ (x.k = 1 ∨ x.k = 2 ∨ x.k = 3 ∨ x.k = 4) := by
  unfold kidsM at h
  split at h
  · omega
  · split at h
    · rename_i h'; omega
    · split at h
      · omega
      · split at h <;> omega
end Go.Nod
namespace Go.Proofs.Ytggkeldedennfaa
open Go Go.RowKit Go.Lay Go.Nod

theorem runK_apart (e : TypeId) : runK.apart e := flatK_apart _ _ _ _ _
theorem ints_rd1 {α : AH} {v : Value} {xs : List Int} (h : Ints α v xs) : ∃ id off, alen Try.prog #[28] v = some (.int .i64 (xs.length : Int)) ∧
    (∀ (k : IntKind) (i : Nat), i < xs.length → aindexAddr Try.prog 28 v (.int k (i : Int)) = some (.pointer (some ⟨id, off + i, none⟩))) ∧
    ∀ β, Fr α.n α β → ∃ b, (0 < xs.length → β.get id = some b) ∧ ∀ (i : Nat) (hi : i < xs.length), b.cells[off + i]? = some (.int .i64 xs[i]) := by
  obtain ⟨id, off, a1, a2, a3⟩ := h.rd1 (t := 28) Try.underlying28 sz3
  refine ⟨id, off, a1, fun k i hi => by have := a2 k i hi; rw [show (intK .i64).sz = 1 from rfl, Nat.mul_one] at this; exact this, fun β hf => ?_⟩
  obtain ⟨b, b1, b2⟩ := a3 β hf
  refine ⟨b, b1, fun i hi => ?_⟩
  obtain ⟨b3, b4⟩ := b2 i hi
  rw [show (intK .i64).sz = 1 from rfl, Nat.mul_one] at b4
  exact take_get b4 (j := 0) (by simp)
theorem rep_succ {τ : Type} (l : List τ) (n : Nat) : (List.replicate (n + 1) l).flatten = (List.replicate n l).flatten ++ l := by
  rw [List.replicate_succ', List.flatten_append]; simp

set_option maxRecDepth 100000 in
set_option maxHeartbeats 1000000 in
theorem leaves_ok (xs : List Nd) (α0 : AH) (v : Value) (h : Nodes α0 v xs) (hl : xs.length ≤ 1000000) : ∀ (n : Nat) (j : Nat) (x : Nd) (ks : F) (α : AH) (u : Value) (ys : List Rn), ks.flat.length = n → At xs j x ks → Fr α0.n α0 α → OwR α0.n α u ys →
    (ys.length : Int) + val x ks.len ≤ 1000000 →
    NCalls Try.prog 72 [v, .int .i64 (j : Int), u] α (fun r α' => OwR α.n α' r (ys ++ lvN x ks) ∧ FrU u α α') := by
  intro n
  induction n using Nat.strongRecOn with
  | _ n ih =>
  intro j x ks α u ys hn h0 hf ho hb
  have hlt := h0.lt
  obtain ⟨hok1, hok2, -⟩ := h0.1
  have hlp := F.len_pos ks hok2
  have hxn := kids_n hok1
  obtain ⟨hx1, hxk⟩ := kids_four hok1
  obtain ⟨nid, noff, -, nidx, nld⟩ := h.rdf (t := 49) Try.underlying49 sz55
  have hj : j < xs.length := by omega
  have rdx : ∀ γ, Fr α0.n α0 γ → ∃ b, γ.get nid = some b ∧ b.cells[noff + j * 3]? = some (.int .i64 x.k) ∧ b.cells[noff + j * 3 + 1]? = some (.int .i64 x.p) ∧ b.cells[noff + j * 3 + 2]? = some (.int .i64 x.n) := fun γ hγ => by
    obtain ⟨b, b1, b2⟩ := nld γ hγ
    obtain ⟨-, -, b3⟩ := b2 j hj
    rw [h0.get hj] at b3
    exact ⟨b, b1 (by omega), b3 0 _ rfl, b3 1 _ rfl, b3 2 _ rfl⟩
  obtain ⟨b, hb0, hk, hp, hn'⟩ := rdx _ hf
  have hix := nidx .i64 j hj
  have hv1 : 1 ≤ val x ks.len := by have := F.len_pos _ h0.1; simp [F.cnt, F.len] at this; omega
  have push : ∀ r : Rn, ∃ w α2, aappend Try.prog #[84, 84] u (.slice (some ⟨α.n, 0, none⟩) 1 0) (α.alloc ⟨[.int .i64 r.p, .int .i64 r.n], 102, true⟩) = some (w, α2) ∧ OwR α.n α2 w (ys ++ [r]) ∧ FrU u α α2 := fun r => by
    obtain ⟨w, α2, p1, p2, p3, -⟩ := ho.push1 el84 hf.n (x := r) (c := [.int .i64 r.p, .int .i64 r.n]) rfl (runK_apart _) (by omega) 0
    exact ⟨w, α2, p1, p2, p3⟩
  refine ncw mixd Try.func72 rfl Try.results72 (by kernel_rfl) ?_
  rcases hxk with k1 | k2 | k3 | k4
  · obtain ⟨w, α2, p1, p2, p3⟩ := push ⟨x.p, x.n⟩
    simp [hix, hb0, hk, k1]
    refine wdraw (tks [0, 0, 0, 0, 0, 0, 0, 0, 0, 0, 0, 0] (.pick (.cons 0 (.pick (.cons 0 (.take 0 (.done)) .nil)) .nil))) (by kernel_rfl) ?_
    simp [hix, hb0, hp, hn', p1]
    rw [lvN, if_pos k1]
    exact ⟨p2, p3⟩
  · obtain ⟨w, α2, p1, p2, p3⟩ := push ⟨-1, x.n⟩
    simp [hix, hb0, hk, k2, hn', p1]
    rw [lvN, if_neg (by omega), if_pos k2]
    exact ⟨p2, p3⟩
  · have hval : val x ks.len = ks.len := by rw [val, if_pos k3]
    rw [lvN, if_neg (by omega), if_neg (by omega), if_neg (by omega)]
    simp [hix, hb0, hk, k3]
    refine (refKidsAt_ok xs j x ks _ v (h.fr hf) (by omega) h0).mono fun kv β hr => ?_
    obtain ⟨ko, hg⟩ := hr
    have hpl := places_len ks (j + 1)
    have hkne : ks.cnt ≠ 0 := by
      have := (kids_val (x := x) (by omega)).1 k3
      omega
    generalize hkl : (F.places (j + 1) ks).map Int.ofNat = kl at *
    have hkll : kl.length ≤ ks.flat.length := by rw [← hkl, List.length_map]; exact hpl
    obtain ⟨-, -, klen, -⟩ := ints_rd1 ko.sl
    have ho1 := ho.fr hg
    simp [klen]
    refine wlp [2, 9] 63 71 (by kernel_rfl) kl.length (fun k t α' => ∃ (i p : Nat) (r : F) (zs : List Rn), k = kl.length - i ∧ i ≤ kl.length ∧ Lies xs p r ∧ r.flat.length ≤ ks.flat.length ∧ kl.drop i = (F.places p r).map Int.ofNat ∧ t 63 = .int .i64 i ∧ OwR α0.n α' (t 2) zs ∧
        ((t 2 = u ∧ r.cnt = ks.cnt) ∨ OwR α.n α' (t 2) zs) ∧ zs ++ lvF r = ys ++ lvF ks ∧ (zs.length : Int) + r.len ≤ 1000000 ∧ FrU u α α' ∧ OwI α.n α' kv kl)
      ⟨0, j + 1, ks, ys, rfl, by omega, h0.kids, Nat.le_refl _, by simp [hkl], by simp, by simpa using ho1, .inl ⟨by simp, rfl⟩, rfl, by omega, .of hg, ko⟩ ?_
    rintro J hJ k t α1 ⟨i, p, r, zs, rfl, hi, hL, hrl, hd, t63, hz, hz2, hzs, hzl, hf', ko⟩
    have hfα : Fr α0.n α0 α1 := hf.trans (hf'.fr ho hf.n)
    cases r with
    | nil =>
      have : i = kl.length := by
        have := congrArg List.length hd
        simp [F.places] at this
        omega
      subst this
      simp [t63]
      rw [← hzs]
      simp only [lvF, List.append_nil]
      rcases hz2 with ⟨_, h⟩ | hz2
      · simp [F.cnt] at h; omega
      · exact ⟨hz2, hf'⟩
    | cons z ws r =>
      obtain ⟨hA, hL'⟩ := hL.head
      obtain ⟨hil, hget, hd'⟩ := drop_head (by simpa [F.places] using hd)
      obtain ⟨id, off, -, kidx, kld⟩ := ints_rd1 ko.sl
      obtain ⟨b, hb1, hc⟩ := kld _ (.refl _ _)
      have hc := hc i hil
      rw [hget] at hc
      have e1 : IntKind.i64.wrap ((i : Int) + 1) = (i : Int) + 1 := w64 (by omega)
      simp only [F.flat, List.length_cons, List.length_append] at hrl
      simp only [F.len] at hzl
      have hrlen := F.len_pos r hL'.1
      simp [t63, hil, kidx .i64 i hil, hb1 (by omega), hc]
      refine (ih ws.flat.length (by omega) p z ws α1 _ zs rfl hA hfα hz (by omega)).mono fun w γ hw => ?_
      obtain ⟨hw1, hw2⟩ := hw
      have hvl := (lvN_len hA.1).1
      have ht2 : t 2 = u ∨ OwR α.n α1 (t 2) zs := hz2.imp (·.1) (fun h => h)
      simp [t63, e1]
      refine agn_mk (kl.length - (i + 1)) (by omega) (hJ _ _ _ ⟨i + 1, p + (ws.flat.length + 1), r, zs ++ lvN z ws, rfl, by omega, hL', by omega, hd', by simp, by simpa using hw1.mono hfα.n, .inr (by simpa using hw1.mono hf'.n), by rw [← hzs]; simp [lvF], by simp; omega, hf'.trans ht2 hw2, ko.fru hw2 hz (show (3 : Nat) ≠ 102 by decide) fun _ _ h => h⟩)
  · have hval : val x ks.len = x.n * ks.len := by rw [val, if_neg (by omega), if_pos k4]
    rw [lvN, if_neg (by omega), if_neg (by omega), if_pos k4]
    have hc1 : ks.cnt = 1 := by have := (kids_val (x := x) (by omega)).2.1 k4; omega
    obtain ⟨z, ws, rfl⟩ : ∃ z ws, ks = .cons z ws .nil := by
      cases ks with
      | nil => simp [F.cnt] at hc1
      | cons z ws r =>
        have : r = .nil := F.cnt_zero (by simp [F.cnt] at hc1; omega)
        subst this
        exact ⟨z, ws, rfl⟩
    obtain ⟨hA, -⟩ := h0.kids.head
    have hvl := (lvN_len hA.1).1
    obtain ⟨m, hm⟩ := Int.eq_ofNat_of_zero_le (show 0 ≤ x.n by omega)
    have hF : lvF (F.cons z ws F.nil) = lvN z ws := by simp [lvF]
    have hL : (F.cons z ws F.nil).len = val z ws.len := by simp [F.len]
    rw [hL, hm] at hval
    rw [hL] at hlp hb hv1
    simp only [F.cnt] at hlp
    rw [hF, hm]
    have hm1 : (m : Int) * 1 ≤ m * val z ws.len := Int.mul_le_mul_of_nonneg_left (by omega) (by omega)
    simp only [F.flat, List.append_nil, List.length_cons] at hn
    simp [hix, hb0, hk, k4]
    have ej : IntKind.i64.wrap ((j : Int) + 1) = (j : Int) + 1 := w64 (by omega)
    refine wlp [2, 7] 44 57 (by kernel_rfl) m (fun k t α' => ∃ (i : Nat) (zs : List Rn), k = m - i ∧ i ≤ m ∧ t 7 = .int .i64 i ∧ OwR α0.n α' (t 2) zs ∧ ((t 2 = u ∧ i = 0) ∨ OwR α.n α' (t 2) zs) ∧ zs = ys ++ (List.replicate i (lvN z ws)).flatten ∧ (zs.length : Int) ≤ ys.length + i * val z ws.len ∧ FrU u α α')
      ⟨0, ys, by omega, by omega, by simp, by simpa using ho, .inl ⟨by simp, rfl⟩, by simp, by omega, .refl _ _⟩ ?_
    rintro J hJ k t α1 ⟨i, zs, rfl, hi, t7, hz, hz2, hzs, hzl, hf'⟩
    have hfα : Fr α0.n α0 α1 := hf.trans (hf'.fr ho hf.n)
    obtain ⟨b', hb1, hk', hp', hn1⟩ := rdx _ hfα
    rw [hm] at hn1
    have hmm : (i : Int) * val z ws.len ≤ m * val z ws.len := Int.mul_le_mul_of_nonneg_right (by omega) (by omega)
    by_cases ci : i < m
    · have e1 : IntKind.i64.wrap ((i : Int) + 1) = (i : Int) + 1 := w64 (by omega)
      have hmm2 : ((i : Int) + 1) * val z ws.len ≤ m * val z ws.len := Int.mul_le_mul_of_nonneg_right (by omega) (by omega)
      rw [Int.add_mul, Int.one_mul] at hmm2
      simp [t7, hix, hb1, hn1, ci, ej]
      refine (ih ws.flat.length (by omega) (j + 1) z ws α1 _ zs rfl hA hfα hz (by omega)).mono fun w γ hw => ?_
      obtain ⟨hw1, hw2⟩ := hw
      have ht2 : t 2 = u ∨ OwR α.n α1 (t 2) zs := hz2.imp (·.1) (fun h => h)
      simp [t7, e1]
      refine agn_mk (m - (i + 1)) (by omega) (hJ _ _ _ ⟨i + 1, zs ++ lvN z ws, rfl, by omega, by simp, by simpa using hw1.mono hfα.n, .inr (by simpa using hw1.mono hf'.n), by rw [rep_succ, hzs, List.append_assoc], ?_, hf'.trans ht2 hw2⟩)
      rw [List.length_append]
      push_cast
      rw [Int.add_mul, Int.one_mul]
      omega
    · have : i = m := by omega
      subst this
      simp [t7, hix, hb1, hn1]
      rw [← hzs]
      rcases hz2 with ⟨_, h⟩ | hz2
      · omega
      · exact ⟨hz2, hf'⟩

theorem leavesTop_ok (xs : List Nd) (α : AH) (v : Value) (h : Nodes α v xs) (hr : rtM xs = 0) : NCalls Try.prog 68 [v] α (fun r α' => OwR α.n α' r (leavesM xs) ∧ Fr α.n α α') := by
  obtain ⟨x, ks, h1, h2, h3, h4, h5, h6⟩ := rt_root hr
  refine ncw mixd Try.func68 rfl Try.results68 (by kernel_rfl) ?_
  simp
  refine (leaves_ok xs α v h (by omega) _ 0 x ks α _ [] rfl ⟨h1, [], by simpa using h2⟩ (.refl _ _) .nil (by simp; omega)).mono fun r β hr => ?_
  obtain ⟨h7, h8⟩ := hr
  simp
  rw [leavesM, h3]
  exact ⟨h7, h8.fr (K := runK) (e := 102) .nil (Nat.le_refl _)⟩
theorem leaves_bd {xs : List Nd} (hr : rtM xs = 0) : (leavesM xs).length ≤ 4096 ∧ ∀ r ∈ leavesM xs, 1 ≤ r.n ∧ r.n ≤ 4096 := by
  obtain ⟨x, ks, h1, h2, h3, h4, h5, h6⟩ := rt_root hr
  rw [leavesM, h3]
  obtain ⟨a, b⟩ := lvN_len h1
  simp only
  exact ⟨by omega, fun r hr => by have := b r hr; omega⟩
theorem rtM_rd (xs : List Nd) (α : AH) (v : Value) (h : Nodes α v xs) (hl : xs.length ≤ 1000000000) : NCalls Try.prog 28 [v] α (fun r α' => r = .int .i64 (rtM xs) ∧ Fr α.n α α') := refRight0_ok xs (jg_spec xs) α v h hl

set_option maxRecDepth 100000 in
theorem of_ok (xs : List Nd) (α : AH) (v : Value) (h : Nodes α v xs) (hl : xs.length ≤ 1000000000) :
    NCalls Try.prog 54 [v] α (fun r α' => ∃ u, r = .tuple #[u, .int .i64 (ofM xs).2] ∧ OwR α.n α' u (ofM xs).1 ∧ Fr α.n α α') := by
  refine ncw mixd Try.func54 rfl Try.results54 (by kernel_rfl) ?_
  simp
  refine (rtM_rd xs α v h hl).mono fun r β hr => ?_
  obtain ⟨rfl, hf⟩ := hr
  by_cases c : rtM xs = 0
  case neg =>
    simp [c, ofM, hf]
    exact .nil
  simp [c]
  refine (leavesTop_ok xs _ v (h.fr hf) c).mono fun r γ hr => ?_
  obtain ⟨ho, hg⟩ := hr
  obtain ⟨b1, b2⟩ := leaves_bd c
  simp
  refine (tidy_ok _ _ _ ho.sl (fun x hx => by have := b2 x hx; unfold big; omega) (by omega)).mono fun r δ hr => ?_
  obtain ⟨ho, hd⟩ := hr
  obtain ⟨a, cc, rfl⟩ := ho.sl.isSl
  have hfr := hf.up (hg.up hd)
  by_cases c2 : 96 < (tidyM (leavesM xs)).length
  · have c2' : (96 : Int) < (tidyM (leavesM xs)).length := by omega
    simp [c2, c2', c, ofM, hfr]
    exact .nil
  · have c2' : ¬ (96 : Int) < (tidyM (leavesM xs)).length := by omega
    simp [c2, c2', c, ofM, hfr]
    exact ho.mono (Nat.le_trans hf.n hg.n)
end Go.Proofs.Ytggkeldedennfaa
