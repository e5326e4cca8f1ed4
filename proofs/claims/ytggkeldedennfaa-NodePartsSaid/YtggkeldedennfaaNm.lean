/- Contract: horariumlaw3.odd. -/
import Derived.Test.YtggkeldedennfaaNl
set_option linter.unusedVariables false
set_option linter.unusedSimpArgs false
namespace Go.Proofs.Ytggkeldedennfaa
open Go Go.RowKit Go.Lay Go.Nod

/-- A piece of a slice. -/
theorem Sl.sub {τ : Type} {e : TypeId} {K : Kd τ} {α : AH} {id off c c' : Nat} {xs : List τ} (h : Sl e K α (.slice (some ⟨id, off, none⟩) xs.length c) xs) (lo n : Nat) (hn : lo + n ≤ xs.length) :
    Sl e K α (.slice (some ⟨id, off + lo * K.sz, none⟩) n c') ((xs.drop lo).take n) := by
  rcases h with ⟨h, _⟩ | ⟨i, o, c, b, h1, h2, h3, h4, h5, h6⟩
  · cases h
  · injection h1 with h1 _ _
    injection h1 with h1
    injection h1 with h1 h1'
    subst h1; subst h1'
    have hl : ((xs.drop lo).take n).length = n := by simp; omega
    have hm : (lo + n) * K.sz ≤ xs.length * K.sz := Nat.mul_le_mul_right _ hn
    rw [Nat.add_mul] at hm
    refine .inr ⟨id, off + lo * K.sz, c', b, by rw [hl], h2, h3, h4, by rw [hl]; omega, fun j hj => ?_⟩
    rw [hl] at hj
    have := h6 (lo + j) (by omega)
    rw [Nat.add_mul, ← Nat.add_assoc] at this
    simpa [List.getElem_take, List.getElem_drop] using this

theorem node_put {N id c : Nat} {cs : List Value} {α : AH} {xs : List Nd} (h2 : N ≤ id) (h3 : id < α.n) (h4 : α.get id = some ⟨cs, 55, true⟩) (h7 : xs.length * 3 ≤ cs.length)
    (h8 : ∀ (i : Nat) (h : i < xs.length), nodeK.R α xs[i] ((cs.drop (i * 3)).take 3)) (i : Nat) (hi : i < xs.length) (o : Nat) (ho : o < 3) (u : Value) (x' : Nd) (hx : xs[i].enc.set o u = x'.enc) (k : Nat) (hk : k = i * 3 + o) :
    OwN N (α.set id (some ⟨cs.set k u, 55, true⟩)) (.slice (some ⟨id, 0, none⟩) xs.length c) (xs.set i x') := by
  refine Ow.put1 (node_apart _) h2 h3 h4 h7 h8 i o ho u x' ?_ k hk
  have := h8 i hi
  show _ = _
  rw [show (List.drop (i * nodeK.sz) cs).take nodeK.sz = xs[i].enc from this, hx]

set_option maxRecDepth 100000 in
set_option maxHeartbeats 4000000 in
theorem odd_ok (xs : List Nd) (at_ what n : Int) (α : AH) (v : Value) (h : Nodes α v xs) (hl : xs.length ≤ 1000000) :
    NCalls Try.prog 25 [v, .int .i64 at_, .int .i64 what, .int .i64 n] α (fun r α' => ∃ ys, OwN α.n α' r ys ∧ ys.length ≤ xs.length + 1 ∧ Fr α.n α α') := by
  obtain ⟨id, off, hlen, hidx, hld⟩ := h.rd (t := 49) Try.underlying49 sz55
  have hfr : Fr α.n α (α.alloc ⟨[], 55, true⟩) := (Fr.refl _ _).alloc (Nat.le_refl _) _
  have o0 : OwN α.n (α.alloc ⟨[], 55, true⟩) (.slice (some ⟨α.n, 0, none⟩) 0 0) [] := Ow.mk (xs := []) (Nat.le_refl _) (by simp [AH.alloc]) (AH.alloc_get _ _) (by simp) (fun i hi => by simp at hi)
  obtain ⟨u, β, a1, a2, a3, a4⟩ := o0.append el49 hfr.n (h.fr hfr) (node_apart _) (by simp; omega)
  have hf : Fr α.n α β := hfr.trans a3
  simp only [List.nil_append] at a2
  clear a4 a3 o0 hfr
  refine ncalls_of (by kernel_rfl) Try.func25 rfl (by rw [Try.ntmps25]; simp) ?_
  rw [Try.ntmps25, Try.results25]
  repeat (first
    | (refine nw_seq (nw_region fun K hK => ?_); simp [a1]; refine hK _ _ ?_; clear hK K)
    | (refine nw_region fun K hK => ?_; simp [a1]; refine hK _ _ ?_; clear hK K)
    | refine nw_seq ?_
    | refine nw_block ?_
    | (refine nw_yes ?_ ?_; focus (simp [a1]; done))
    | (refine nw_no ?_ ?_; focus (simp [a1]; done))
    | refine nw_skip ?_
    | refine nw_exit ?_
    | refine nw_ret ?_)
  by_cases c1 : xs.length = 0
  · have hnil : xs = [] := List.length_eq_zero_iff.1 c1
    subst hnil
    repeat (first
      | (refine nw_seq (nw_region fun K hK => ?_); simp [hlen]; refine hK _ _ ?_; clear hK K)
      | (refine nw_region fun K hK => ?_; simp [hlen]; refine hK _ _ ?_; clear hK K)
      | refine nw_seq ?_
      | refine nw_block ?_
      | (refine nw_yes ?_ ?_; focus (simp [hlen]; done))
      | (refine nw_no ?_ ?_; focus (simp [hlen]; done))
      | refine nw_skip ?_
      | refine nw_exit ?_
      | refine nw_ret ?_)
    simp
    exact ⟨[], a2, by simp, hf⟩
  have hnil : xs ≠ [] := fun hh => c1 (by rw [hh]; rfl)
  have c1' : ((xs.length : Int) == 0) = false := by simp; exact hnil
  have e1 : IntKind.i64.wrap ((xs.length : Int) - 1) = (xs.length : Int) - 1 := w64 (by omega)
  repeat (first
    | (refine nw_seq (nw_region fun K hK => ?_); simp [hlen, c1, c1', hnil]; refine hK _ _ ?_; clear hK K)
    | (refine nw_region fun K hK => ?_; simp [hlen, c1, c1', hnil]; refine hK _ _ ?_; clear hK K)
    | refine nw_seq ?_
    | refine nw_block ?_
    | (refine nw_yes ?_ ?_; focus (simp [hlen, c1, c1', hnil]; done))
    | (refine nw_no ?_ ?_; focus (simp [hlen, c1, c1', hnil]; done))
    | refine nw_skip ?_
    | refine nw_exit ?_
    | refine nw_ret ?_)
  refine nw_region fun K hK => ?_
  simp [hlen, e1]
  refine (within_ok at_ 0 _ _ (by omega) (by omega) (by omega)).mono fun w γ hw => ?_
  obtain ⟨k', rfl, k0, k1, -, rfl⟩ := hw
  obtain ⟨k, rfl⟩ := Int.eq_ofNat_of_zero_le k0
  simp [contK, ]
  refine hK _ _ ?_
  clear hK K
  repeat (first
    | (refine nw_seq (nw_region fun K hK => ?_); simp []; refine hK _ _ ?_; clear hK K)
    | (refine nw_region fun K hK => ?_; simp []; refine hK _ _ ?_; clear hK K)
    | refine nw_seq ?_
    | refine nw_block ?_
    | (refine nw_yes ?_ ?_; focus (simp []; done))
    | (refine nw_no ?_ ?_; focus (simp []; done))
    | refine nw_skip ?_
    | refine nw_exit ?_
    | refine nw_ret ?_)
  refine nw_region fun K hK => ?_
  simp []
  refine (within_ok what 0 6 _ (by omega) (by omega) (by omega)).mono fun w γ hw => ?_
  obtain ⟨q, rfl, q0, q1, -, rfl⟩ := hw
  simp [contK, ]
  refine hK _ _ ?_
  clear hK K
  obtain ⟨qid, c, cs, rfl, m1, m2, m3, m4, m5⟩ := a2.mem (by omega)
  have hk : k < xs.length := by omega
  have hkk : (k : Int) < xs.length := by omega
  have m4' : k * 3 + 3 ≤ cs.length := by have : (k + 1) * 3 ≤ xs.length * 3 := Nat.mul_le_mul_right _ hk; have : xs.length * 3 ≤ cs.length := m4; omega
  have hR : (cs.drop (k * 3)).take 3 = xs[k].enc := m5 k hk
  have f0 : k * 3 + 1 ≤ cs.length := by omega
  have f1 : k * 3 + 1 + 1 ≤ cs.length := by omega
  have f2 : k * 3 + 2 + 1 ≤ cs.length := by omega
  have hset : ∀ b, Fr α.n α (γ.set qid b) := fun b => hf.set m1 b
  have hq : q = 0 ∨ q = 1 ∨ q = 2 ∨ q = 3 ∨ q = 4 ∨ q = 5 ∨ q = 6 := by omega
  rcases hq with rfl | rfl | rfl | rfl | rfl | rfl | rfl
  ·
    repeat (first
      | (refine nw_seq (nw_region fun K hK => ?_); simp [m3, hkk, f0, f1, f2]; refine hK _ _ ?_; clear hK K)
      | (refine nw_region fun K hK => ?_; simp [m3, hkk, f0, f1, f2]; refine hK _ _ ?_; clear hK K)
      | refine nw_seq ?_
      | refine nw_block ?_
      | (refine nw_yes ?_ ?_; focus (simp [m3, hkk, f0, f1, f2]; done))
      | (refine nw_no ?_ ?_; focus (simp [m3, hkk, f0, f1, f2]; done))
      | refine nw_skip ?_
      | refine nw_exit ?_
      | refine nw_ret ?_)
    simp
    exact ⟨_, node_put m1 m2 m3 m4 m5 k hk 0 (by decide) (.int .i64 n) ⟨n, xs[k].p, xs[k].n⟩ rfl _ rfl, by simp, hset _⟩
  ·
    repeat (first
      | (refine nw_seq (nw_region fun K hK => ?_); simp [m3, hkk, f0, f1, f2]; refine hK _ _ ?_; clear hK K)
      | (refine nw_region fun K hK => ?_; simp [m3, hkk, f0, f1, f2]; refine hK _ _ ?_; clear hK K)
      | refine nw_seq ?_
      | refine nw_block ?_
      | (refine nw_yes ?_ ?_; focus (simp [m3, hkk, f0, f1, f2]; done))
      | (refine nw_no ?_ ?_; focus (simp [m3, hkk, f0, f1, f2]; done))
      | refine nw_skip ?_
      | refine nw_exit ?_
      | refine nw_ret ?_)
    simp
    exact ⟨_, node_put m1 m2 m3 m4 m5 k hk 1 (by decide) (.int .i64 n) ⟨xs[k].k, n, xs[k].n⟩ rfl _ rfl, by simp, hset _⟩
  ·
    repeat (first
      | (refine nw_seq (nw_region fun K hK => ?_); simp [m3, hkk, f0, f1, f2]; refine hK _ _ ?_; clear hK K)
      | (refine nw_region fun K hK => ?_; simp [m3, hkk, f0, f1, f2]; refine hK _ _ ?_; clear hK K)
      | refine nw_seq ?_
      | refine nw_block ?_
      | (refine nw_yes ?_ ?_; focus (simp [m3, hkk, f0, f1, f2]; done))
      | (refine nw_no ?_ ?_; focus (simp [m3, hkk, f0, f1, f2]; done))
      | refine nw_skip ?_
      | refine nw_exit ?_
      | refine nw_ret ?_)
    simp
    exact ⟨_, node_put m1 m2 m3 m4 m5 k hk 2 (by decide) (.int .i64 n) ⟨xs[k].k, xs[k].p, n⟩ rfl _ rfl, by simp, hset _⟩
  ·
    repeat (first
      | (refine nw_seq (nw_region fun K hK => ?_); simp [m3, hkk, f0, f1, f2]; refine hK _ _ ?_; clear hK K)
      | (refine nw_region fun K hK => ?_; simp [m3, hkk, f0, f1, f2]; refine hK _ _ ?_; clear hK K)
      | refine nw_seq ?_
      | refine nw_block ?_
      | (refine nw_yes ?_ ?_; focus (simp [m3, hkk, f0, f1, f2]; done))
      | (refine nw_no ?_ ?_; focus (simp [m3, hkk, f0, f1, f2]; done))
      | refine nw_skip ?_
      | refine nw_exit ?_
      | refine nw_ret ?_)
    simp
    exact ⟨_, node_put m1 m2 m3 m4 m5 k hk 2 (by decide) (.int .i64 n) ⟨xs[k].k, xs[k].p, n⟩ rfl _ rfl, by simp, hset _⟩
  · have hsub : Nodes γ (.slice (some ⟨qid, (k + 1) * 3, none⟩) (xs.length - (k + 1)) 0) ((xs.drop (k + 1)).take (xs.length - (k + 1))) := by
      have := Sl.sub (c' := 0) a2.sl (k + 1) (xs.length - (k + 1)) (by omega)
      rw [Nat.zero_add] at this
      exact this
    have hcut := a2.cut (c' := 0) k (by omega)
    obtain ⟨u', β', b1, b2, b3, -⟩ := hcut.append el49 hf.n hsub (node_apart _) (by simp; omega)
    have g1 : k ≤ xs.length := by omega
    have g2 : k + 1 ≤ xs.length := by omega
    have g3 : (0 : Int) ≤ (k : Int) + 1 := by omega
    have e2 : IntKind.i64.wrap ((k : Int) + 1) = (k : Int) + 1 := w64 (by omega)
    repeat (first
      | (refine nw_seq (nw_region fun K hK => ?_); simp []; refine hK _ _ ?_; clear hK K)
      | (refine nw_region fun K hK => ?_; simp []; refine hK _ _ ?_; clear hK K)
      | refine nw_seq ?_
      | refine nw_block ?_
      | (refine nw_yes ?_ ?_; focus (simp []; done))
      | (refine nw_no ?_ ?_; focus (simp []; done))
      | refine nw_skip ?_
      | refine nw_exit ?_
      | refine nw_ret ?_)
    refine nw_draw (.take 0 (.take 1 (.take 2 (.take 3 (.take 4 (.take 5 (.take 6 (.pick (.cons 7 (.take 8 (.done)) .nil))))))))) mixd (by kernel_rfl) fun K hK => ?_
    simp [m3, aslice, e2, g1, g2, g3, b1]
    refine hK _ _ ?_
    clear hK K
    repeat (first
      | (refine nw_seq (nw_region fun K hK => ?_); simp []; refine hK _ _ ?_; clear hK K)
      | (refine nw_region fun K hK => ?_; simp []; refine hK _ _ ?_; clear hK K)
      | refine nw_seq ?_
      | refine nw_block ?_
      | (refine nw_yes ?_ ?_; focus (simp []; done))
      | (refine nw_no ?_ ?_; focus (simp []; done))
      | refine nw_skip ?_
      | refine nw_exit ?_
      | refine nw_ret ?_)
    simp
    exact ⟨_, b2, by simp; omega, hf.trans b3⟩
  · obtain ⟨u', β', b1, b2, b3, -⟩ := a2.push el49 hf.n (x := xs[k]) (c := xs[k].enc) rfl (node_apart _) (by omega) 0
    simp only [Nd.enc] at hR b1
    repeat (first
      | (refine nw_seq (nw_region fun K hK => ?_); simp [m3, hkk, m4', hR, b1]; refine hK _ _ ?_; clear hK K)
      | (refine nw_region fun K hK => ?_; simp [m3, hkk, m4', hR, b1]; refine hK _ _ ?_; clear hK K)
      | refine nw_seq ?_
      | refine nw_block ?_
      | (refine nw_yes ?_ ?_; focus (simp [m3, hkk, m4', hR, b1]; done))
      | (refine nw_no ?_ ?_; focus (simp [m3, hkk, m4', hR, b1]; done))
      | refine nw_skip ?_
      | refine nw_exit ?_
      | refine nw_ret ?_)
    simp
    exact ⟨_, b2, by simp, hf.trans b3⟩
  · have x2 : cs[k * 3 + 2]? = some (.int .i64 xs[k].n) := take_get hR (j := 2) (show 2 < 3 by decide)
    repeat (first
      | (refine nw_seq (nw_region fun K hK => ?_); simp [m3, hkk, f0, f1, f2, x2]; refine hK _ _ ?_; clear hK K)
      | (refine nw_region fun K hK => ?_; simp [m3, hkk, f0, f1, f2, x2]; refine hK _ _ ?_; clear hK K)
      | refine nw_seq ?_
      | refine nw_block ?_
      | (refine nw_yes ?_ ?_; focus (simp [m3, hkk, f0, f1, f2, x2]; done))
      | (refine nw_no ?_ ?_; focus (simp [m3, hkk, f0, f1, f2, x2]; done))
      | refine nw_skip ?_
      | refine nw_exit ?_
      | refine nw_ret ?_)
    simp
    generalize IntKind.i64.wrap (xs[k].n + _) = z
    exact ⟨_, node_put m1 m2 m3 m4 m5 k hk 2 (by decide) (.int .i64 z) ⟨xs[k].k, xs[k].p, z⟩ rfl _ rfl, by simp, hset _⟩
end Go.Proofs.Ytggkeldedennfaa
