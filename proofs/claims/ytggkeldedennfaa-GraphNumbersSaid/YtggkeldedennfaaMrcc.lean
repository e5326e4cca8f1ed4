/- Parts of this proof, joined: Nm, Nn, No, Lz, Lw, Lx, Da, Ga. -/
import Derived.Test.YtggkeldedennfaaMrcb

set_option linter.unusedVariables false
set_option linter.unusedSimpArgs false
namespace Go.Proofs.Ytggkeldedennfaa
open Go Go.RowKit Go.Lay Go.Nod

/-- A piece of a slice. -/
theorem Sl.sub {τ : Type} {e : TypeId} {K : Kd τ} {α : AH} {id off c c' : Nat} {xs : List τ} (h : Sl e K α (.slice (some ⟨id, off, none⟩) xs.length c) xs) (lo n : Nat) (hn : lo + n ≤ xs.length) :
    Sl e K α (.slice (some ⟨id, off + lo * K.sz, none⟩) n c') ((xs.drop lo).take n) := by
  rcases h with ⟨h, _⟩ | ⟨i, o, c, b, h1, h2, h3, h4, h5, h6⟩
  · cases h
  · injection h1 with h1 _ _
    injection h1 with h1
    injection h1 with h1 h1'
    subst h1; subst h1'
    have hl : ((xs.drop lo).take n).length = n := by simp; omega
    have hm : (lo + n) * K.sz ≤ xs.length * K.sz := Nat.mul_le_mul_right _ hn
    rw [Nat.add_mul] at hm
    refine .inr ⟨id, off + lo * K.sz, c', b, by rw [hl], h2, h3, h4, by rw [hl]; omega, fun j hj => ?_⟩
    rw [hl] at hj
    have := h6 (lo + j) (by omega)
    rw [Nat.add_mul, ← Nat.add_assoc] at this
    simpa [List.getElem_take, List.getElem_drop] using this

theorem node_put {N id c : Nat} {cs : List Value} {α : AH} {xs : List Nd} (h2 : N ≤ id) (h3 : id < α.n) (h4 : α.get id = some ⟨cs, 55, true⟩) (h7 : xs.length * 3 ≤ cs.length)
    (h8 : ∀ (i : Nat) (h : i < xs.length), nodeK.R α xs[i] ((cs.drop (i * 3)).take 3)) (i : Nat) (hi : i < xs.length) (o : Nat) (ho : o < 3) (u : Value) (x' : Nd) (hx : xs[i].enc.set o u = x'.enc) (k : Nat) (hk : k = i * 3 + o) :
    OwN N (α.set id (some ⟨cs.set k u, 55, true⟩)) (.slice (some ⟨id, 0, none⟩) xs.length c) (xs.set i x') := by
  refine Ow.put1 (node_apart _) h2 h3 h4 h7 h8 i o ho u x' ?_ k hk
  have := h8 i hi
  show _ = _
  rw [show (List.drop (i * nodeK.sz) cs).take nodeK.sz = xs[i].enc from this, hx]

set_option maxRecDepth 100000 in
set_option maxHeartbeats 4000000 in
theorem odd_ok (xs : List Nd) (at_ what n : Int) (α : AH) (v : Value) (h : Nodes α v xs) (hl : xs.length ≤ 1000000) :
    NCalls Try.prog 25 [v, .int .i64 at_, .int .i64 what, .int .i64 n] α (fun r α' => ∃ ys, OwN α.n α' r ys ∧ ys.length ≤ xs.length + 1 ∧ Fr α.n α α') := by
  obtain ⟨id, off, hlen, hidx, hld⟩ := h.rd (t := 49) Try.underlying49 sz55
  have hfr : Fr α.n α (α.alloc ⟨[], 55, true⟩) := (Fr.refl _ _).alloc (Nat.le_refl _) _
  have o0 : OwN α.n (α.alloc ⟨[], 55, true⟩) (.slice (some ⟨α.n, 0, none⟩) 0 0) [] := Ow.mk (xs := []) (Nat.le_refl _) (by simp [AH.alloc]) (AH.alloc_get _ _) (by simp) (fun i hi => by simp at hi)
  obtain ⟨u, β, a1, a2, a3, a4⟩ := o0.append el49 hfr.n (h.fr hfr) (node_apart _) (by simp; omega)
  have hf : Fr α.n α β := hfr.trans a3
  simp only [List.nil_append] at a2
  clear a4 a3 o0 hfr
  refine ncalls_of (by kernel_rfl) Try.func25 rfl (by rw [Try.ntmps25]; simp) ?_
  rw [Try.ntmps25, Try.results25]
  repeat (first
    | (refine nw_seq (nw_region fun K hK => ?_); simp [a1]; refine hK _ _ ?_; clear hK K)
    | (refine nw_region fun K hK => ?_; simp [a1]; refine hK _ _ ?_; clear hK K)
    | refine nw_seq ?_
    | refine nw_block ?_
    | (refine nw_yes ?_ ?_; focus (simp [a1]; done))
    | (refine nw_no ?_ ?_; focus (simp [a1]; done))
    | refine nw_skip ?_
    | refine nw_exit ?_
    | refine nw_ret ?_)
  by_cases c1 : xs.length = 0
  · have hnil : xs = [] := List.length_eq_zero_iff.1 c1
    subst hnil
    repeat (first
      | (refine nw_seq (nw_region fun K hK => ?_); simp [hlen]; refine hK _ _ ?_; clear hK K)
      | (refine nw_region fun K hK => ?_; simp [hlen]; refine hK _ _ ?_; clear hK K)
      | refine nw_seq ?_
      | refine nw_block ?_
      | (refine nw_yes ?_ ?_; focus (simp [hlen]; done))
      | (refine nw_no ?_ ?_; focus (simp [hlen]; done))
      | refine nw_skip ?_
      | refine nw_exit ?_
      | refine nw_ret ?_)
    simp
    exact ⟨[], a2, by simp, hf⟩
  have hnil : xs ≠ [] := fun hh => c1 (by rw [hh]; rfl)
  have c1' : ((xs.length : Int) == 0) = false := by simp; exact hnil
  have e1 : IntKind.i64.wrap ((xs.length : Int) - 1) = (xs.length : Int) - 1 := w64 (by omega)
  repeat (first
    | (refine nw_seq (nw_region fun K hK => ?_); simp [hlen, c1, c1', hnil]; refine hK _ _ ?_; clear hK K)
    | (refine nw_region fun K hK => ?_; simp [hlen, c1, c1', hnil]; refine hK _ _ ?_; clear hK K)
    | refine nw_seq ?_
    | refine nw_block ?_
    | (refine nw_yes ?_ ?_; focus (simp [hlen, c1, c1', hnil]; done))
    | (refine nw_no ?_ ?_; focus (simp [hlen, c1, c1', hnil]; done))
    | refine nw_skip ?_
    | refine nw_exit ?_
    | refine nw_ret ?_)
  refine nw_region fun K hK => ?_
  simp [hlen, e1]
  refine (within_ok at_ 0 _ _ (by omega) (by omega) (by omega)).mono fun w γ hw => ?_
  obtain ⟨k', rfl, k0, k1, -, rfl⟩ := hw
  obtain ⟨k, rfl⟩ := Int.eq_ofNat_of_zero_le k0
  simp [contK, ]
  refine hK _ _ ?_
  clear hK K
  repeat (first
    | (refine nw_seq (nw_region fun K hK => ?_); simp []; refine hK _ _ ?_; clear hK K)
    | (refine nw_region fun K hK => ?_; simp []; refine hK _ _ ?_; clear hK K)
    | refine nw_seq ?_
    | refine nw_block ?_
    | (refine nw_yes ?_ ?_; focus (simp []; done))
    | (refine nw_no ?_ ?_; focus (simp []; done))
    | refine nw_skip ?_
    | refine nw_exit ?_
    | refine nw_ret ?_)
  refine nw_region fun K hK => ?_
  simp []
  refine (within_ok what 0 6 _ (by omega) (by omega) (by omega)).mono fun w γ hw => ?_
  obtain ⟨q, rfl, q0, q1, -, rfl⟩ := hw
  simp [contK, ]
  refine hK _ _ ?_
  clear hK K
  obtain ⟨qid, c, cs, rfl, m1, m2, m3, m4, m5⟩ := a2.mem (by omega)
  have hk : k < xs.length := by omega
  have hkk : (k : Int) < xs.length := by omega
  have m4' : k * 3 + 3 ≤ cs.length := by have : (k + 1) * 3 ≤ xs.length * 3 := Nat.mul_le_mul_right _ hk; have : xs.length * 3 ≤ cs.length := m4; omega
  have hR : (cs.drop (k * 3)).take 3 = xs[k].enc := m5 k hk
  have f0 : k * 3 + 1 ≤ cs.length := by omega
  have f1 : k * 3 + 1 + 1 ≤ cs.length := by omega
  have f2 : k * 3 + 2 + 1 ≤ cs.length := by omega
  have hset : ∀ b, Fr α.n α (γ.set qid b) := fun b => hf.set m1 b
  have hq : q = 0 ∨ q = 1 ∨ q = 2 ∨ q = 3 ∨ q = 4 ∨ q = 5 ∨ q = 6 := by omega
  rcases hq with rfl | rfl | rfl | rfl | rfl | rfl | rfl
  ·
    repeat (first
      | (refine nw_seq (nw_region fun K hK => ?_); simp [m3, hkk, f0, f1, f2]; refine hK _ _ ?_; clear hK K)
      | (refine nw_region fun K hK => ?_; simp [m3, hkk, f0, f1, f2]; refine hK _ _ ?_; clear hK K)
      | refine nw_seq ?_
      | refine nw_block ?_
      | (refine nw_yes ?_ ?_; focus (simp [m3, hkk, f0, f1, f2]; done))
      | (refine nw_no ?_ ?_; focus (simp [m3, hkk, f0, f1, f2]; done))
      | refine nw_skip ?_
      | refine nw_exit ?_
      | refine nw_ret ?_)
    simp
    exact ⟨_, node_put m1 m2 m3 m4 m5 k hk 0 (by decide) (.int .i64 n) ⟨n, xs[k].p, xs[k].n⟩ rfl _ rfl, by simp, hset _⟩
  ·
    repeat (first
      | (refine nw_seq (nw_region fun K hK => ?_); simp [m3, hkk, f0, f1, f2]; refine hK _ _ ?_; clear hK K)
      | (refine nw_region fun K hK => ?_; simp [m3, hkk, f0, f1, f2]; refine hK _ _ ?_; clear hK K)
      | refine nw_seq ?_
      | refine nw_block ?_
      | (refine nw_yes ?_ ?_; focus (simp [m3, hkk, f0, f1, f2]; done))
      | (refine nw_no ?_ ?_; focus (simp [m3, hkk, f0, f1, f2]; done))
      | refine nw_skip ?_
      | refine nw_exit ?_
      | refine nw_ret ?_)
    simp
    exact ⟨_, node_put m1 m2 m3 m4 m5 k hk 1 (by decide) (.int .i64 n) ⟨xs[k].k, n, xs[k].n⟩ rfl _ rfl, by simp, hset _⟩
  ·
    repeat (first
      | (refine nw_seq (nw_region fun K hK => ?_); simp [m3, hkk, f0, f1, f2]; refine hK _ _ ?_; clear hK K)
      | (refine nw_region fun K hK => ?_; simp [m3, hkk, f0, f1, f2]; refine hK _ _ ?_; clear hK K)
      | refine nw_seq ?_
      | refine nw_block ?_
      | (refine nw_yes ?_ ?_; focus (simp [m3, hkk, f0, f1, f2]; done))
      | (refine nw_no ?_ ?_; focus (simp [m3, hkk, f0, f1, f2]; done))
      | refine nw_skip ?_
      | refine nw_exit ?_
      | refine nw_ret ?_)
    simp
    exact ⟨_, node_put m1 m2 m3 m4 m5 k hk 2 (by decide) (.int .i64 n) ⟨xs[k].k, xs[k].p, n⟩ rfl _ rfl, by simp, hset _⟩
  ·
    repeat (first
      | (refine nw_seq (nw_region fun K hK => ?_); simp [m3, hkk, f0, f1, f2]; refine hK _ _ ?_; clear hK K)
      | (refine nw_region fun K hK => ?_; simp [m3, hkk, f0, f1, f2]; refine hK _ _ ?_; clear hK K)
      | refine nw_seq ?_
      | refine nw_block ?_
      | (refine nw_yes ?_ ?_; focus (simp [m3, hkk, f0, f1, f2]; done))
      | (refine nw_no ?_ ?_; focus (simp [m3, hkk, f0, f1, f2]; done))
      | refine nw_skip ?_
      | refine nw_exit ?_
      | refine nw_ret ?_)
    simp
    exact ⟨_, node_put m1 m2 m3 m4 m5 k hk 2 (by decide) (.int .i64 n) ⟨xs[k].k, xs[k].p, n⟩ rfl _ rfl, by simp, hset _⟩
  · have hsub : Nodes γ (.slice (some ⟨qid, (k + 1) * 3, none⟩) (xs.length - (k + 1)) 0) ((xs.drop (k + 1)).take (xs.length - (k + 1))) := by
      have := Sl.sub (c' := 0) a2.sl (k + 1) (xs.length - (k + 1)) (by omega)
      rw [Nat.zero_add] at this
      exact this
    have hcut := a2.cut (c' := 0) k (by omega)
    obtain ⟨u', β', b1, b2, b3, -⟩ := hcut.append el49 hf.n hsub (node_apart _) (by simp; omega)
    have g1 : k ≤ xs.length := by omega
    have g2 : k + 1 ≤ xs.length := by omega
    have g3 : (0 : Int) ≤ (k : Int) + 1 := by omega
    have e2 : IntKind.i64.wrap ((k : Int) + 1) = (k : Int) + 1 := w64 (by omega)
    repeat (first
      | (refine nw_seq (nw_region fun K hK => ?_); simp []; refine hK _ _ ?_; clear hK K)
      | (refine nw_region fun K hK => ?_; simp []; refine hK _ _ ?_; clear hK K)
      | refine nw_seq ?_
      | refine nw_block ?_
      | (refine nw_yes ?_ ?_; focus (simp []; done))
      | (refine nw_no ?_ ?_; focus (simp []; done))
      | refine nw_skip ?_
      | refine nw_exit ?_
      | refine nw_ret ?_)
    refine nw_draw (.take 0 (.take 1 (.take 2 (.take 3 (.take 4 (.take 5 (.take 6 (.pick (.cons 7 (.take 8 (.done)) .nil))))))))) mixd (by kernel_rfl) fun K hK => ?_
    simp [m3, aslice, e2, g1, g2, g3, b1]
    refine hK _ _ ?_
    clear hK K
    repeat (first
      | (refine nw_seq (nw_region fun K hK => ?_); simp []; refine hK _ _ ?_; clear hK K)
      | (refine nw_region fun K hK => ?_; simp []; refine hK _ _ ?_; clear hK K)
      | refine nw_seq ?_
      | refine nw_block ?_
      | (refine nw_yes ?_ ?_; focus (simp []; done))
      | (refine nw_no ?_ ?_; focus (simp []; done))
      | refine nw_skip ?_
      | refine nw_exit ?_
      | refine nw_ret ?_)
    simp
    exact ⟨_, b2, by simp; omega, hf.trans b3⟩
  · obtain ⟨u', β', b1, b2, b3, -⟩ := a2.push el49 hf.n (x := xs[k]) (c := xs[k].enc) rfl (node_apart _) (by omega) 0
    simp only [Nd.enc] at hR b1
    repeat (first
      | (refine nw_seq (nw_region fun K hK => ?_); simp [m3, hkk, m4', hR, b1]; refine hK _ _ ?_; clear hK K)
      | (refine nw_region fun K hK => ?_; simp [m3, hkk, m4', hR, b1]; refine hK _ _ ?_; clear hK K)
      | refine nw_seq ?_
      | refine nw_block ?_
      | (refine nw_yes ?_ ?_; focus (simp [m3, hkk, m4', hR, b1]; done))
      | (refine nw_no ?_ ?_; focus (simp [m3, hkk, m4', hR, b1]; done))
      | refine nw_skip ?_
      | refine nw_exit ?_
      | refine nw_ret ?_)
    simp
    exact ⟨_, b2, by simp, hf.trans b3⟩
  · have x2 : cs[k * 3 + 2]? = some (.int .i64 xs[k].n) := take_get hR (j := 2) (show 2 < 3 by decide)
    repeat (first
      | (refine nw_seq (nw_region fun K hK => ?_); simp [m3, hkk, f0, f1, f2, x2]; refine hK _ _ ?_; clear hK K)
      | (refine nw_region fun K hK => ?_; simp [m3, hkk, f0, f1, f2, x2]; refine hK _ _ ?_; clear hK K)
      | refine nw_seq ?_
      | refine nw_block ?_
      | (refine nw_yes ?_ ?_; focus (simp [m3, hkk, f0, f1, f2, x2]; done))
      | (refine nw_no ?_ ?_; focus (simp [m3, hkk, f0, f1, f2, x2]; done))
      | refine nw_skip ?_
      | refine nw_exit ?_
      | refine nw_ret ?_)
    simp
    generalize IntKind.i64.wrap (xs[k].n + _) = z
    exact ⟨_, node_put m1 m2 m3 m4 m5 k hk 2 (by decide) (.int .i64 z) ⟨xs[k].k, xs[k].p, z⟩ rfl _ rfl, by simp, hset _⟩
end Go.Proofs.Ytggkeldedennfaa

set_option linter.unusedVariables false
set_option linter.unusedSimpArgs false
namespace Go.Proofs.Ytggkeldedennfaa
open Go Go.RowKit Go.Lay Go.Nod

theorem enc_win : ∀ (xs : List Nd) (i : Nat) (hi : i < xs.length), ((xs.flatMap Nd.enc).drop (i * 3)).take 3 = xs[i].enc
  | [], i, hi => by simp at hi
  | x :: xs, 0, hi => by simp [Nd.enc]
  | x :: xs, i + 1, hi => by
    have h := enc_win xs i (by simpa using hi)
    rw [List.flatMap_cons, Nat.succ_mul, Nat.add_comm (i * 3) 3, ← List.drop_drop]
    simpa [Nd.enc] using h
theorem enc_len (xs : List Nd) : (xs.flatMap Nd.enc).length = xs.length * 3 := by
  induction xs with
  | nil => rfl
  | cons x xs ih => simp [List.flatMap_cons, Nd.enc, ih]; omega
theorem lit_own (xs : List Nd) {N : Nat} {α : AH} (hN : N ≤ α.n) (c : Nat) : OwN N (α.alloc ⟨xs.flatMap Nd.enc, 55, true⟩) (.slice (some ⟨α.n, 0, none⟩) xs.length c) xs :=
  Ow.mk hN (by simp [AH.alloc]) (AH.alloc_get _ _) (by rw [enc_len]; exact Nat.le_refl _) fun i hi => enc_win xs i hi
theorem lit_nodes (xs : List Nd) (α : AH) (c : Nat) : Nodes (α.alloc ⟨xs.flatMap Nd.enc, 55, true⟩) (.slice (some ⟨α.n, 0, none⟩) xs.length c) xs := (lit_own xs (Nat.le_refl _) c).sl
theorem lit_pack (xs : List Nd) (α : AH) (c n : Nat) (cells : List Value) (hc : xs.flatMap Nd.enc = cells) (hn : xs.length = n) :
    ∃ β v, α.alloc ⟨cells, 55, true⟩ = β ∧ Value.slice (some ⟨α.n, 0, none⟩) n c = v ∧ Nodes β v xs ∧ Fr α.n α β := by
  subst hc; subst hn
  exact ⟨_, _, rfl, rfl, lit_nodes xs α c, (Fr.refl _ _).alloc (Nat.le_refl _) _⟩
theorem lit_ints (xs : List Int) (α : AH) (c : Nat) : Ints (α.alloc ⟨xs.map (.int .i64), 3, true⟩) (.slice (some ⟨α.n, 0, none⟩) xs.length c) xs := by
  refine .inr ⟨α.n, 0, c, _, rfl, by simp [AH.alloc], AH.alloc_get _ _, rfl, by simp [intK], fun i hi => ?_⟩
  show _ = _
  simp only [intK, Nat.mul_one, Nat.zero_add]
  rw [List.drop_eq_getElem_cons (show i < (xs.map (Value.int .i64)).length by simpa using hi)]
  simp
theorem judged_of (x : Nd) (ks : F) (hok : (F.cons x ks .nil).ok) : Judged (x :: ks.flat) true (ks.dep + 1) (min 4097 (val x ks.len)) := by
  have hA : At (x :: ks.flat) 0 x ks := ⟨hok, [], by simp⟩
  have hs : sizeM (x :: ks.flat) 0 = ks.flat.length + 1 := hA.size
  exact .inr ⟨rfl, by rw [hs]; simp, by simp, x, ks, hok, rfl, rfl, rfl⟩

set_option maxRecDepth 100000 in
set_option maxHeartbeats 4000000 in
theorem known3_ok (α : AH) : NCalls Try.prog 26 [] α (fun r α' => r = .bool true ∧ Fr α.n α α') := by
  have j1 : Judged [⟨4, 0, 2⟩, ⟨1, 0, 3⟩] true 2 6 := judged_of ⟨4, 0, 2⟩ (.cons ⟨1, 0, 3⟩ .nil .nil) (by simp [F.ok, F.cnt, kidsM])
  have j2 : Judged [⟨4, 0, 4611686018427387904⟩, ⟨1, 0, 3⟩] true 2 4097 := judged_of ⟨4, 0, 4611686018427387904⟩ (.cons ⟨1, 0, 3⟩ .nil .nil) (by simp [F.ok, F.cnt, kidsM])
  have j0 : Judged [] false 0 0 := .inl ⟨rfl, by simp, rfl, rfl⟩
  have k1 : KidsAre [⟨3, 0, 2⟩, ⟨2, 0, 1⟩, ⟨2, 0, 2⟩] 0 [1, 2] := .inr ⟨0, ⟨3, 0, 2⟩, .cons ⟨2, 0, 1⟩ .nil (.cons ⟨2, 0, 2⟩ .nil .nil), rfl, ⟨by simp [F.ok, F.cnt, kidsM], [], rfl⟩, rfl⟩
  have z1 : sizeM [⟨4, 0, 2⟩, ⟨1, 0, 3⟩] 1 = 1 := by decide
  have z2 : sizeM [⟨4, 0, 2⟩, ⟨1, 0, 3⟩] 9 = 0 := by decide
  have hf : Fr α.n α α := .refl _ _
  refine ncalls_of (by kernel_rfl) Try.func26 rfl (by rw [Try.ntmps26]; simp) ?_
  rw [Try.ntmps26, Try.results26]
  repeat (first
    | (refine nw_seq (nw_region fun K hK => ?_); simp []; refine hK _ _ ?_; clear hK K)
    | (refine nw_region fun K hK => ?_; simp []; refine hK _ _ ?_; clear hK K)
    | refine nw_seq ?_
    | refine nw_block ?_
    | (refine nw_yes ?_ ?_; focus (simp []; done))
    | (refine nw_no ?_ ?_; focus (simp []; done))
    | refine nw_skip ?_
    | refine nw_exit ?_
    | refine nw_ret ?_)
  obtain ⟨α1, v, q1, q2, hl, hf⟩ := lit_pack [⟨4, 0, 2⟩, ⟨1, 0, 3⟩] α 0 2 _ rfl rfl
  simp only [List.flatMap_cons, List.flatMap_nil, Nd.enc, List.append_nil, List.cons_append, List.nil_append] at q1
  simp only [q1, q2]
  refine nw_region fun K hK => ?_
  simp []
  refine (length_ok _ j1 _ v hl (by simp)).mono fun r γ hr => ?_
  obtain ⟨rfl, hg⟩ := hr
  replace hf := Fr.up hf hg
  have hg0 := hg
  clear hg
  simp [contK, ]
  refine hK _ _ ?_
  clear hK K
  replace hl := hl.fr hg0
  repeat (first
    | (refine nw_seq (nw_region fun K hK => ?_); simp []; refine hK _ _ ?_; clear hK K)
    | (refine nw_region fun K hK => ?_; simp []; refine hK _ _ ?_; clear hK K)
    | refine nw_seq ?_
    | refine nw_block ?_
    | (refine nw_yes ?_ ?_; focus (simp []; done))
    | (refine nw_no ?_ ?_; focus (simp []; done))
    | refine nw_skip ?_
    | refine nw_exit ?_
    | refine nw_ret ?_)
  refine nw_region fun K hK => ?_
  simp []
  obtain ⟨γ1, v1, e1, e2, hl1, hg⟩ := lit_pack [⟨4, 0, 4611686018427387904⟩, ⟨1, 0, 3⟩] γ 0 2 _ rfl rfl
  simp only [List.flatMap_cons, List.flatMap_nil, Nd.enc, List.append_nil, List.cons_append, List.nil_append] at e1
  simp only [e1, e2]
  replace hl := hl.fr hg
  replace hf := Fr.up hf hg
  refine (length_ok _ j2 _ v1 hl1 (by simp)).mono fun r γ hr => ?_
  obtain ⟨rfl, hg⟩ := hr
  replace hf := Fr.up hf hg
  have hg0 := hg
  clear hg
  simp [contK, ]
  refine hK _ _ ?_
  clear hK K
  replace hl := hl.fr hg0
  repeat (first
    | (refine nw_seq (nw_region fun K hK => ?_); simp []; refine hK _ _ ?_; clear hK K)
    | (refine nw_region fun K hK => ?_; simp []; refine hK _ _ ?_; clear hK K)
    | refine nw_seq ?_
    | refine nw_block ?_
    | (refine nw_yes ?_ ?_; focus (simp []; done))
    | (refine nw_no ?_ ?_; focus (simp []; done))
    | refine nw_skip ?_
    | refine nw_exit ?_
    | refine nw_ret ?_)
  refine nw_region fun K hK => ?_
  simp []
  obtain ⟨γ2, v2, e1, e2, hl2, hg⟩ := lit_pack [⟨3, 0, 2⟩, ⟨2, 0, 1⟩, ⟨2, 0, 2⟩] γ 0 3 _ rfl rfl
  simp only [List.flatMap_cons, List.flatMap_nil, Nd.enc, List.append_nil, List.cons_append, List.nil_append] at e1
  simp only [e1, e2]
  replace hl := hl.fr hg
  replace hf := Fr.up hf hg
  refine (kids_any _ 0 _ k1 _ v2 hl2 (by simp)).mono fun kv γ hr => ?_
  obtain ⟨ho, hg⟩ := hr
  replace hl := hl.fr hg
  replace hf := Fr.up hf hg
  simp [contK, ]
  refine hK _ _ ?_
  clear hK K
  repeat (first
    | (refine nw_seq (nw_region fun K hK => ?_); simp []; refine hK _ _ ?_; clear hK K)
    | (refine nw_region fun K hK => ?_; simp []; refine hK _ _ ?_; clear hK K)
    | refine nw_seq ?_
    | refine nw_block ?_
    | (refine nw_yes ?_ ?_; focus (simp []; done))
    | (refine nw_no ?_ ?_; focus (simp []; done))
    | refine nw_skip ?_
    | refine nw_exit ?_
    | refine nw_ret ?_)
  refine nw_region fun K hK => ?_
  simp []
  refine (right_ok _ j0 _ (.slice none 0 0) (.inl ⟨rfl, rfl⟩) (by simp)).mono fun r γ hr => ?_
  obtain ⟨rfl, hg⟩ := hr
  replace hf := Fr.up hf hg
  have hg0 := hg
  clear hg
  simp [contK, rightM]
  replace hl := hl.fr hg0
  have hkv := ho.sl.fr hg0
  refine (right_ok _ j1 _ v hl (by simp)).mono fun r γ hr => ?_
  obtain ⟨rfl, hg⟩ := hr
  replace hf := Fr.up hf hg
  have hg0 := hg
  clear hg
  simp [contK, rightM]
  replace hl := hl.fr hg0
  replace hkv := hkv.fr hg0
  refine (depth_ok _ j1 _ v hl (by simp)).mono fun r γ hr => ?_
  obtain ⟨rfl, hg⟩ := hr
  replace hf := Fr.up hf hg
  have hg0 := hg
  clear hg
  simp [contK, ]
  replace hl := hl.fr hg0
  replace hkv := hkv.fr hg0
  refine (size_ok _ 1 _ v hl (by simp)).mono fun r γ hr => ?_
  obtain ⟨rfl, hg⟩ := hr
  replace hf := Fr.up hf hg
  have hg0 := hg
  clear hg
  simp [contK, z1]
  replace hl := hl.fr hg0
  replace hkv := hkv.fr hg0
  refine (size_ok _ 9 _ v hl (by simp)).mono fun r γ hr => ?_
  obtain ⟨rfl, hg⟩ := hr
  replace hf := Fr.up hf hg
  have hg0 := hg
  clear hg
  simp [contK, z2]
  replace hl := hl.fr hg0
  replace hkv := hkv.fr hg0
  have hfa : ∀ b, Fr γ.n γ (γ.alloc b) := fun b => (Fr.refl _ _).alloc (Nat.le_refl _) b
  refine (bookSame_ok [1, 2] [1, 2] _ kv _ (hkv.fr (hfa _)) (lit_ints [1, 2] _ 0) (by simp)).mono fun r γ' hr => ?_
  obtain ⟨rfl, rfl⟩ := hr
  replace hf := Fr.up hf (hfa ⟨[.int .i64 1, .int .i64 2], 3, true⟩)
  simp [contK]
  refine (same_ok _ _ v (hl.fr (hfa _)) (by simp)).mono fun r γ' hr => ?_
  obtain ⟨rfl, rfl⟩ := hr
  simp [contK, ]
  refine hK _ _ ?_
  clear hK K
  repeat (first
    | (refine nw_seq (nw_region fun K hK => ?_); simp []; refine hK _ _ ?_; clear hK K)
    | (refine nw_region fun K hK => ?_; simp []; refine hK _ _ ?_; clear hK K)
    | refine nw_seq ?_
    | refine nw_block ?_
    | (refine nw_yes ?_ ?_; focus (simp []; done))
    | (refine nw_no ?_ ?_; focus (simp []; done))
    | refine nw_skip ?_
    | refine nw_exit ?_
    | refine nw_ret ?_)
  simp
  exact hf
end Go.Proofs.Ytggkeldedennfaa

set_option linter.unusedVariables false
set_option linter.unusedSimpArgs false
namespace Go.Proofs.Ytggkeldedennfaa
open Go Go.RowKit Go.Lay Go.Nod

theorem FrX.up {id N : Nat} {a b : AH} (h : FrX id a b) (h1 : N ≤ id) (h2 : N ≤ a.n) : Fr N a b := ⟨h.n, fun i hi => h.get i (by omega) (by omega)⟩
theorem newTape {β : AH} {vL : Value} {L : List Int} (h : Ints β vL L) (hl : L.length ≤ 1000000000000000) : IsTape (β.alloc ⟨[vL, .int .i64 0], 31, true⟩) β.n L 0 :=
  ⟨hl, by omega, by omega, by simp [AH.alloc], vL, AH.alloc_get _ _, h.fr ((Fr.refl _ _).alloc (Nat.le_refl _) _)⟩

/-- The eleven numbers. -/
theorem elevens (γ : AH) (c : Nat) : Sl 2 (intK .i64) (γ.alloc ⟨[.int .i64 (-1), .int .i64 0, .int .i64 1, .int .i64 2, .int .i64 5, .int .i64 6, .int .i64 128, .int .i64 129, .int .i64 4096, .int .i64 4097, .int .i64 9223372036854775807], 2, true⟩) (.slice (some ⟨γ.n, 0, none⟩) 11 c) [-1, 0, 1, 2, 5, 6, 128, 129, 4096, 4097, 9223372036854775807] := by
  refine .inr ⟨γ.n, 0, c, _, rfl, by simp [AH.alloc], AH.alloc_get _ _, rfl, by simp [intK], fun i hi => ?_⟩
  have : i = 0 ∨ i = 1 ∨ i = 2 ∨ i = 3 ∨ i = 4 ∨ i = 5 ∨ i = 6 ∨ i = 7 ∨ i = 8 ∨ i = 9 ∨ i = 10 := by simp at hi; omega
  rcases this with rfl | rfl | rfl | rfl | rfl | rfl | rfl | rfl | rfl | rfl | rfl <;> rfl

set_option maxRecDepth 100000 in
set_option maxHeartbeats 8000000 in
theorem nodeNumbers_ok (α : AH) : NCalls Try.prog 7 [] α (fun r α' => r = .bool true ∧ Fr α.n α α') := by
  refine ncalls_of (by kernel_rfl) Try.func7 rfl (by rw [Try.ntmps7]; simp) ?_
  rw [Try.ntmps7, Try.results7]
  repeat (first
    | (refine nw_seq (nw_region fun K hK => ?_); simp []; refine hK _ _ ?_; clear hK K)
    | (refine nw_region fun K hK => ?_; simp []; refine hK _ _ ?_; clear hK K)
    | refine nw_seq ?_
    | refine nw_block ?_
    | (refine nw_yes ?_ ?_; focus (simp []; done))
    | (refine nw_no ?_ ?_; focus (simp []; done))
    | refine nw_skip ?_
    | refine nw_exit ?_
    | refine nw_ret ?_)
  refine nw_loop (fun n s α' => ∃ (k : Nat), n = 60 - k ∧ k ≤ 60 ∧ s 1 = .int .i64 (k : Int) ∧ Fr α.n α α') 60 ⟨0, rfl, by omega, by simp, .refl _ _⟩ ?_
  rintro n s α' ⟨k, rfl, hk, s1, hf⟩
  by_cases c : k < 60
  · have c' : (k : Int) < 60 := by omega
    have e1 : IntKind.i64.wrap ((k : Int) + 1) = (k : Int) + 1 := w64 (by omega)
    have e2 : (k : Int).tmod 7 = ((k % 7 : Nat) : Int) := rfl
    have e3 : IntKind.i64.wrap ((k % 7 : Nat) : Int) = ((k % 7 : Nat) : Int) := w64 (by omega)
    repeat (first
      | (refine nw_seq (nw_region fun K hK => ?_); simp [s1, c']; refine hK _ _ ?_; clear hK K)
      | (refine nw_region fun K hK => ?_; simp [s1, c']; refine hK _ _ ?_; clear hK K)
      | refine nw_seq ?_
      | refine nw_block ?_
      | (refine nw_yes ?_ ?_; focus (simp [s1, c']; done))
      | (refine nw_no ?_ ?_; focus (simp [s1, c']; done))
      | refine nw_skip ?_
      | refine nw_exit ?_
      | refine nw_ret ?_)
    refine nw_region fun K hK => ?_
    simp [s1]
    refine (tape3_ok k _ (by omega) (by omega)).mono fun vL β hr => ?_
    obtain ⟨L, hL, hoL, hfL⟩ := hr
    obtain ⟨lid, lc, lcs, rfl, -, -, -, -, -⟩ := hoL.mem (by omega)
    have hT := newTape hoL.sl (by omega)
    have hfr : Fr β.n β (β.alloc ⟨[.slice (some ⟨lid, 0, none⟩) L.length lc, .int .i64 0], 31, true⟩) := (Fr.refl _ _).alloc (Nat.le_refl _) _
    have hf1 := Fr.up hf hfL
    simp [contK, s1, e2, e3]
    refine (table_ok L β.n 3 (k % 7) (by omega) 0 _ hT).mono fun v γ hr => ?_
    obtain ⟨xs, at1, hx, hx1, hx2, hX, -⟩ := hr
    have h56 : 5 ^ (k % 7) ≤ 5 ^ 6 := Nat.pow_le_pow_right (by omega) (by omega)
    have hf2 : Fr α.n α γ := hf1.trans (((hfr.mono hf1.n).trans (hX.up hf1.n (Nat.le_trans hf1.n hfr.n))))
    simp [contK, s1]
    refine hK _ _ ?_
    clear hK K
    obtain ⟨id, off, hlen, -, -⟩ := hx.sl.rd (t := 49) Try.underlying49 sz55
    by_cases c2 : 150 < (xs.length : Int)
    ·
      repeat (first
        | (refine nw_seq (nw_region fun K hK => ?_); simp [hlen, c2, s1, e1]; refine hK _ _ ?_; clear hK K)
        | (refine nw_region fun K hK => ?_; simp [hlen, c2, s1, e1]; refine hK _ _ ?_; clear hK K)
        | refine nw_seq ?_
        | refine nw_block ?_
        | (refine nw_yes ?_ ?_; focus (simp [hlen, c2, s1, e1]; done))
        | (refine nw_no ?_ ?_; focus (simp [hlen, c2, s1, e1]; done))
        | refine nw_skip ?_
        | refine nw_exit ?_
        | refine nw_ret ?_)
      exact ⟨60 - (k + 1), by omega, k + 1, rfl, by omega, by simp, hf2⟩
    repeat (first
      | (refine nw_seq (nw_region fun K hK => ?_); simp [hlen, c2]; refine hK _ _ ?_; clear hK K)
      | (refine nw_region fun K hK => ?_; simp [hlen, c2]; refine hK _ _ ?_; clear hK K)
      | refine nw_seq ?_
      | refine nw_block ?_
      | (refine nw_yes ?_ ?_; focus (simp [hlen, c2]; done))
      | (refine nw_no ?_ ?_; focus (simp [hlen, c2]; done))
      | refine nw_skip ?_
      | refine nw_exit ?_
      | refine nw_ret ?_)
    refine nw_region fun K hK => ?_
    simp [s1]
    refine (lawSame_ok xs k _ v hx.sl (by omega)).mono fun w δ hr => ?_
    obtain ⟨rfl, hg⟩ := hr
    simp [contK, ]
    refine hK _ _ ?_
    clear hK K
    repeat (first
      | (refine nw_seq (nw_region fun K hK => ?_); simp []; refine hK _ _ ?_; clear hK K)
      | (refine nw_region fun K hK => ?_; simp []; refine hK _ _ ?_; clear hK K)
      | refine nw_seq ?_
      | refine nw_block ?_
      | (refine nw_yes ?_ ?_; focus (simp []; done))
      | (refine nw_no ?_ ?_; focus (simp []; done))
      | refine nw_skip ?_
      | refine nw_exit ?_
      | refine nw_ret ?_)
    have hv := hx.sl.fr hg
    have hf3 := Fr.up hf2 hg
    clear hf2 hg hx hX hT hfr hoL hf1 hfL
    refine nw_loop (fun n s α' => ∃ (j : Nat), n = 7 - j ∧ j ≤ 7 ∧ s 1 = .int .i64 (k : Int) ∧ s 2 = v ∧ s 3 = .int .i64 (j : Int) ∧ Fr δ.n δ α') 7 ⟨0, rfl, by omega, by simp [s1], by simp, by simp, .refl _ _⟩ ?_
    rintro n s α' ⟨j, rfl, hj, s1, s2, s3, hf4⟩
    by_cases c3 : j < 7
    · have c3' : (j : Int) < 7 := by omega
      have e4 : IntKind.i64.wrap ((j : Int) + 1) = (j : Int) + 1 := w64 (by omega)
      have hE := elevens α' 0
      have hfr : Fr α'.n α' (α'.alloc ⟨[.int .i64 (-1), .int .i64 0, .int .i64 1, .int .i64 2, .int .i64 5, .int .i64 6, .int .i64 128, .int .i64 129, .int .i64 4096, .int .i64 4097, .int .i64 9223372036854775807], 2, true⟩) := (Fr.refl _ _).alloc (Nat.le_refl _) _
      repeat (first
        | (refine nw_seq (nw_region fun K hK => ?_); simp [s3, c3']; refine hK _ _ ?_; clear hK K)
        | (refine nw_region fun K hK => ?_; simp [s3, c3']; refine hK _ _ ?_; clear hK K)
        | refine nw_seq ?_
        | refine nw_block ?_
        | (refine nw_yes ?_ ?_; focus (simp [s3, c3']; done))
        | (refine nw_no ?_ ?_; focus (simp [s3, c3']; done))
        | refine nw_skip ?_
        | refine nw_exit ?_
        | refine nw_ret ?_)
      generalize α'.alloc _ = ε at *
      obtain ⟨qid, qoff, -, qidx, qld⟩ := hE.rd (t := 52) Try.underlying52 sz2
      generalize hLL : [(-1 : Int), 0, 1, 2, 5, 6, 128, 129, 4096, 4097, 9223372036854775807] = LL at *
      have hL11 : LL.length = 11 := by rw [← hLL]; rfl
      refine nw_loop (fun n s α2 => ∃ (i : Nat), n = 11 - i ∧ i ≤ 11 ∧ s 1 = .int .i64 (k : Int) ∧ s 2 = v ∧ s 3 = .int .i64 (j : Int) ∧ s 34 = .slice (some ⟨α'.n, 0, none⟩) 11 0 ∧ s 35 = .int .i64 11 ∧ s 36 = .int .i64 (i : Int) ∧ Fr ε.n ε α2)
        11 ⟨0, rfl, by omega, by simp [s1], by simp [s2], by simp [s3], by simp, by simp, by simp, .refl _ _⟩ ?_
      rintro n s α2 ⟨i, rfl, hi, s1, s2, s3, s34, s35, s36, hf5⟩
      have hf6 : Fr δ.n δ α2 := Fr.up (Fr.up hf4 hfr) hf5
      by_cases c4 : i < 11
      · have c4' : (i : Int) < 11 := by omega
        have qx := qidx .i64 i (by omega)
        obtain ⟨b, hb, _, hc⟩ := qld _ hf5 i (by omega)
        have hc : b.cells[qoff + i * (intK .i64).sz]? = some (.int .i64 LL[i]) := by have := take_get hc (j := 0) (by simp); simpa using this
        generalize LL[i] = nn at *
        have e5 : IntKind.i64.wrap ((i : Int) + 1) = (i : Int) + 1 := w64 (by omega)
        repeat (first
          | (refine nw_seq (nw_region fun K hK => ?_); simp [s34, s35, s36, c4', qx, hb, hc]; refine hK _ _ ?_; clear hK K)
          | (refine nw_region fun K hK => ?_; simp [s34, s35, s36, c4', qx, hb, hc]; refine hK _ _ ?_; clear hK K)
          | refine nw_seq ?_
          | refine nw_block ?_
          | (refine nw_yes ?_ ?_; focus (simp [s34, s35, s36, c4', qx, hb, hc]; done))
          | (refine nw_no ?_ ?_; focus (simp [s34, s35, s36, c4', qx, hb, hc]; done))
          | refine nw_skip ?_
          | refine nw_exit ?_
          | refine nw_ret ?_)
        refine nw_region fun K hK => ?_
        simp [s1, s2, s3]
        refine (odd_ok xs k j nn _ v (hv.fr hf6) (by omega)).mono fun w ζ hr => ?_
        obtain ⟨ys, hy, hyl, hg1⟩ := hr
        simp [contK, s1]
        refine (lawSame_ok ys k _ w hy.sl (by omega)).mono fun w η hr => ?_
        obtain ⟨rfl, hg2⟩ := hr
        simp [contK, ]
        refine hK _ _ ?_
        clear hK K
        repeat (first
          | (refine nw_seq (nw_region fun K hK => ?_); simp [s36, e5]; refine hK _ _ ?_; clear hK K)
          | (refine nw_region fun K hK => ?_; simp [s36, e5]; refine hK _ _ ?_; clear hK K)
          | refine nw_seq ?_
          | refine nw_block ?_
          | (refine nw_yes ?_ ?_; focus (simp [s36, e5]; done))
          | (refine nw_no ?_ ?_; focus (simp [s36, e5]; done))
          | refine nw_skip ?_
          | refine nw_exit ?_
          | refine nw_ret ?_)
        exact ⟨11 - (i + 1), by omega, i + 1, rfl, by omega, by simp [s1], by simp [s2], by simp [s3], by simp [s34], by simp [s35], by simp, Fr.up hf5 (Fr.up hg1 hg2)⟩
      · have : i = 11 := by omega
        subst this
        repeat (first
          | (refine nw_seq (nw_region fun K hK => ?_); simp [s3, s35, s36, e4]; refine hK _ _ ?_; clear hK K)
          | (refine nw_region fun K hK => ?_; simp [s3, s35, s36, e4]; refine hK _ _ ?_; clear hK K)
          | refine nw_seq ?_
          | refine nw_block ?_
          | (refine nw_yes ?_ ?_; focus (simp [s3, s35, s36, e4]; done))
          | (refine nw_no ?_ ?_; focus (simp [s3, s35, s36, e4]; done))
          | refine nw_skip ?_
          | refine nw_exit ?_
          | refine nw_ret ?_)
        exact ⟨7 - (j + 1), by omega, j + 1, rfl, by omega, by simp [s1], by simp [s2], by simp, hf6⟩
    · have : j = 7 := by omega
      subst this
      repeat (first
        | (refine nw_seq (nw_region fun K hK => ?_); simp [s1, s3, e1]; refine hK _ _ ?_; clear hK K)
        | (refine nw_region fun K hK => ?_; simp [s1, s3, e1]; refine hK _ _ ?_; clear hK K)
        | refine nw_seq ?_
        | refine nw_block ?_
        | (refine nw_yes ?_ ?_; focus (simp [s1, s3, e1]; done))
        | (refine nw_no ?_ ?_; focus (simp [s1, s3, e1]; done))
        | refine nw_skip ?_
        | refine nw_exit ?_
        | refine nw_ret ?_)
      exact ⟨60 - (k + 1), by omega, k + 1, rfl, by omega, by simp, Fr.up hf3 hf4⟩
  have : k = 60 := by omega
  subst this
  repeat (first
    | (refine nw_seq (nw_region fun K hK => ?_); simp [s1]; refine hK _ _ ?_; clear hK K)
    | (refine nw_region fun K hK => ?_; simp [s1]; refine hK _ _ ?_; clear hK K)
    | refine nw_seq ?_
    | refine nw_block ?_
    | (refine nw_yes ?_ ?_; focus (simp [s1]; done))
    | (refine nw_no ?_ ?_; focus (simp [s1]; done))
    | refine nw_skip ?_
    | refine nw_exit ?_
    | refine nw_ret ?_)
  clear s1 c hk
  refine nw_loop (fun n s α' => ∃ (d : Nat), n = 19 - d ∧ 1 ≤ d ∧ d ≤ 19 ∧ s 6 = .int .i64 (d : Int) ∧ Fr α.n α α') 18 ⟨1, by omega, by omega, by omega, by simp, hf⟩ ?_
  clear hf
  rintro n s α' ⟨d, rfl, hd1, hd, s6, hf⟩
  by_cases c : d < 19
  · have c' : (d : Int) < 19 := by omega
    have e1 : IntKind.i64.wrap ((d : Int) + 1) = (d : Int) + 1 := w64 (by omega)
    repeat (first
      | (refine nw_seq (nw_region fun K hK => ?_); simp [s6, c']; refine hK _ _ ?_; clear hK K)
      | (refine nw_region fun K hK => ?_; simp [s6, c']; refine hK _ _ ?_; clear hK K)
      | refine nw_seq ?_
      | refine nw_block ?_
      | (refine nw_yes ?_ ?_; focus (simp [s6, c']; done))
      | (refine nw_no ?_ ?_; focus (simp [s6, c']; done))
      | refine nw_skip ?_
      | refine nw_exit ?_
      | refine nw_ret ?_)
    refine nw_loop (fun n s β => ∃ (i : Nat) (ys : List Nd), n = d - i ∧ 1 ≤ i ∧ i ≤ d ∧ s 6 = .int .i64 (d : Int) ∧ s 8 = .int .i64 (i : Int) ∧ OwN α.n β (s 7) ys ∧ ys.length ≤ i ∧ Fr α.n α β) (d - 1) ⟨1, [], by omega, by omega, by omega, by simp [s6], by simp, by simp; exact .nil, by simp, hf⟩ ?_
    clear hf
    rintro n s β ⟨i, ys, rfl, hi1, hi, s6, s8, ho, hy, hf⟩
    by_cases c2 : i < d
    · have c2' : (i : Int) < d := by omega
      have e2 : IntKind.i64.wrap ((i : Int) + 1) = (i : Int) + 1 := w64 (by omega)
      have hA : Fr β.n β (β.alloc ⟨[.int .i64 3, .int .i64 4], 3, true⟩) := (Fr.refl _ _).alloc (Nat.le_refl _) _
      have hf2 : Fr α.n α (β.alloc ⟨[.int .i64 3, .int .i64 4], 3, true⟩) := Fr.up hf hA
      rcases (show i % 2 = 0 ∨ i % 2 = 1 by omega) with hp | hp
      · have p0 : (i : Int) % 2 = 0 := by omega
        have p0' : (i : Int).tmod 2 = 0 := by rw [show (i : Int).tmod 2 = ((i % 2 : Nat) : Int) from rfl, hp]; rfl
        obtain ⟨v', γ, a1, a2, a3, -⟩ := (ho.fr hA).push el49 hf2.n (x := ⟨3, 0, 1⟩) (c := [.int .i64 3, .int .i64 0, .int .i64 1]) rfl (node_apart _) (by omega) 0
        simp only [show ∀ b, (β.alloc b).n = β.n + 1 from fun _ => rfl] at a1
        repeat (first
          | (refine nw_seq (nw_region fun K hK => ?_); simp [s6, s8, c2', e2, p0, p0', a1]; refine hK _ _ ?_; clear hK K)
          | (refine nw_region fun K hK => ?_; simp [s6, s8, c2', e2, p0, p0', a1]; refine hK _ _ ?_; clear hK K)
          | refine nw_seq ?_
          | refine nw_block ?_
          | (refine nw_yes ?_ ?_; focus (simp [s6, s8, c2', e2, p0, p0', a1]; done))
          | (refine nw_no ?_ ?_; focus (simp [s6, s8, c2', e2, p0, p0', a1]; done))
          | refine nw_skip ?_
          | refine nw_exit ?_
          | refine nw_ret ?_)
        exact ⟨d - (i + 1), by omega, i + 1, ys ++ [⟨3, 0, 1⟩], rfl, by omega, by omega, by simp [s6], by simp, by simp; exact a2, by simp; omega, hf2.trans a3⟩
      · have p0 : (i : Int) % 2 = 1 := by omega
        have p0' : (i : Int).tmod 2 = 1 := by rw [show (i : Int).tmod 2 = ((i % 2 : Nat) : Int) from rfl, hp]; rfl
        obtain ⟨v', γ, a1, a2, a3, -⟩ := (ho.fr hA).push el49 hf2.n (x := ⟨4, 0, 1⟩) (c := [.int .i64 4, .int .i64 0, .int .i64 1]) rfl (node_apart _) (by omega) 0
        simp only [show ∀ b, (β.alloc b).n = β.n + 1 from fun _ => rfl] at a1
        repeat (first
          | (refine nw_seq (nw_region fun K hK => ?_); simp [s6, s8, c2', e2, p0, p0', a1]; refine hK _ _ ?_; clear hK K)
          | (refine nw_region fun K hK => ?_; simp [s6, s8, c2', e2, p0, p0', a1]; refine hK _ _ ?_; clear hK K)
          | refine nw_seq ?_
          | refine nw_block ?_
          | (refine nw_yes ?_ ?_; focus (simp [s6, s8, c2', e2, p0, p0', a1]; done))
          | (refine nw_no ?_ ?_; focus (simp [s6, s8, c2', e2, p0, p0', a1]; done))
          | refine nw_skip ?_
          | refine nw_exit ?_
          | refine nw_ret ?_)
        exact ⟨d - (i + 1), by omega, i + 1, ys ++ [⟨4, 0, 1⟩], rfl, by omega, by omega, by simp [s6], by simp, by simp; exact a2, by simp; omega, hf2.trans a3⟩
    · have c2' : ¬ ((i : Int) < d) := by omega
      obtain ⟨v', γ, a1, a2, a3, -⟩ := ho.push el49 hf.n (x := ⟨2, 0, 1⟩) (c := [.int .i64 2, .int .i64 0, .int .i64 1]) rfl (node_apart _) (by omega) 0
      repeat (first
        | (refine nw_seq (nw_region fun K hK => ?_); simp [s6, s8, c2']; refine hK _ _ ?_; clear hK K)
        | (refine nw_region fun K hK => ?_; simp [s6, s8, c2']; refine hK _ _ ?_; clear hK K)
        | refine nw_seq ?_
        | refine nw_block ?_
        | (refine nw_yes ?_ ?_; focus (simp [s6, s8, c2']; done))
        | (refine nw_no ?_ ?_; focus (simp [s6, s8, c2']; done))
        | refine nw_skip ?_
        | refine nw_exit ?_
        | refine nw_ret ?_)
      refine nw_region fun K hK => ?_
      simp [s6, a1]
      refine (lawSame_ok _ _ _ v' a2.sl (by simp; omega)).mono fun w δ hr => ?_
      obtain ⟨rfl, hg⟩ := hr
      simp [contK, ]
      refine hK _ _ ?_
      clear hK K
      repeat (first
        | (refine nw_seq (nw_region fun K hK => ?_); simp [s6, e1]; refine hK _ _ ?_; clear hK K)
        | (refine nw_region fun K hK => ?_; simp [s6, e1]; refine hK _ _ ?_; clear hK K)
        | refine nw_seq ?_
        | refine nw_block ?_
        | (refine nw_yes ?_ ?_; focus (simp [s6, e1]; done))
        | (refine nw_no ?_ ?_; focus (simp [s6, e1]; done))
        | refine nw_skip ?_
        | refine nw_exit ?_
        | refine nw_ret ?_)
      exact ⟨19 - (d + 1), by omega, d + 1, rfl, by omega, by omega, by simp, (hf.trans a3).trans (hg.mono (hf.trans a3).n)⟩
  have : d = 19 := by omega
  subst this
  repeat (first
    | (refine nw_seq (nw_region fun K hK => ?_); simp [s6]; refine hK _ _ ?_; clear hK K)
    | (refine nw_region fun K hK => ?_; simp [s6]; refine hK _ _ ?_; clear hK K)
    | refine nw_seq ?_
    | refine nw_block ?_
    | (refine nw_yes ?_ ?_; focus (simp [s6]; done))
    | (refine nw_no ?_ ?_; focus (simp [s6]; done))
    | refine nw_skip ?_
    | refine nw_exit ?_
    | refine nw_ret ?_)
  clear s6 c hd hd1
  refine nw_loop (fun n s α' => ∃ (m : Nat), n = 19 - m ∧ m ≤ 19 ∧ s 9 = .int .i64 (1 + 7 * (m : Int)) ∧ Fr α.n α α') 19 ⟨0, by omega, by omega, by simp, hf⟩ ?_
  clear hf
  rintro n s α' ⟨m, rfl, hm, s9, hf⟩
  by_cases c : m < 19
  · have c' : 1 + 7 * (m : Int) < 131 := by omega
    have e1 : IntKind.i64.wrap (1 + 7 * (m : Int) + 7) = 1 + 7 * (m : Int) + 7 := w64 (by omega)
    have hA : Fr α'.n α' (α'.alloc ⟨[.int .i64 3, .int .i64 0, .int .i64 (1 + 7 * (m : Int))], 55, true⟩) := (Fr.refl _ _).alloc (Nat.le_refl _) _
    have o1 : OwN α.n (α'.alloc ⟨[.int .i64 3, .int .i64 0, .int .i64 (1 + 7 * (m : Int))], 55, true⟩) (.slice (some ⟨α'.n, 0, none⟩) 1 0) [⟨3, 0, 1 + 7 * (m : Int)⟩] := Ow.one hf.n rfl _
    repeat (first
      | (refine nw_seq (nw_region fun K hK => ?_); simp [s9, c']; refine hK _ _ ?_; clear hK K)
      | (refine nw_region fun K hK => ?_; simp [s9, c']; refine hK _ _ ?_; clear hK K)
      | refine nw_seq ?_
      | refine nw_block ?_
      | (refine nw_yes ?_ ?_; focus (simp [s9, c']; done))
      | (refine nw_no ?_ ?_; focus (simp [s9, c']; done))
      | refine nw_skip ?_
      | refine nw_exit ?_
      | refine nw_ret ?_)
    refine nw_loop (fun n s β => ∃ (i : Nat) (ys : List Nd), n = (1 + 7 * m) - i ∧ i ≤ 1 + 7 * m ∧ s 9 = .int .i64 (1 + 7 * (m : Int)) ∧ s 11 = .int .i64 (i : Int) ∧ OwN α.n β (s 10) ys ∧ ys.length ≤ 1 + i ∧ Fr α.n α β) (1 + 7 * m) ⟨0, _, by omega, by omega, by simp [s9], by simp, by simp; exact o1, by simp, Fr.up hf hA⟩ ?_
    clear hf o1 hA
    rintro n s β ⟨i, ys, rfl, hi, s9, s11, ho, hy, hf⟩
    by_cases c2 : i < 1 + 7 * m
    · have c2' : (i : Int) < 1 + 7 * m := by omega
      have e2 : IntKind.i64.wrap ((i : Int) + 1) = (i : Int) + 1 := w64 (by omega)
      have t6 : (i : Int).tmod 6 = ((i % 6 : Nat) : Int) := rfl
      have t40 : (i : Int).tmod 40 = ((i % 40 : Nat) : Int) := rfl
      have e3 : IntKind.i64.wrap ((i % 6 : Nat) : Int) = ((i % 6 : Nat) : Int) := w64 (by omega)
      have e4 : IntKind.i64.wrap ((i % 40 : Nat) : Int) = ((i % 40 : Nat) : Int) := w64 (by omega)
      have e5 : IntKind.i64.wrap (((i % 40 : Nat) : Int) + 1) = ((i % 40 : Nat) : Int) + 1 := w64 (by omega)
      generalize ((i % 6 : Nat) : Int) = r6 at *
      generalize ((i % 40 : Nat) : Int) = r40 at *
      obtain ⟨v', γ, a1, a2, a3, -⟩ := ho.push el49 hf.n (x := ⟨1, r6, r40 + 1⟩) (c := [.int .i64 1, .int .i64 r6, .int .i64 (r40 + 1)]) rfl (node_apart _) (by omega) 0
      repeat (first
        | (refine nw_seq (nw_region fun K hK => ?_); simp [s9, s11, c2', e2, t6, t40, e3, e4, e5, a1]; refine hK _ _ ?_; clear hK K)
        | (refine nw_region fun K hK => ?_; simp [s9, s11, c2', e2, t6, t40, e3, e4, e5, a1]; refine hK _ _ ?_; clear hK K)
        | refine nw_seq ?_
        | refine nw_block ?_
        | (refine nw_yes ?_ ?_; focus (simp [s9, s11, c2', e2, t6, t40, e3, e4, e5, a1]; done))
        | (refine nw_no ?_ ?_; focus (simp [s9, s11, c2', e2, t6, t40, e3, e4, e5, a1]; done))
        | refine nw_skip ?_
        | refine nw_exit ?_
        | refine nw_ret ?_)
      exact ⟨1 + 7 * m - (i + 1), by omega, i + 1, ys ++ [⟨1, r6, r40 + 1⟩], rfl, by omega, by simp [s9], by simp, by simp; exact a2, by simp; omega, hf.trans a3⟩
    · have c2' : ¬ ((i : Int) < 1 + 7 * m) := by omega
      generalize hv : s 10 = v at *
      repeat (first
        | (refine nw_seq (nw_region fun K hK => ?_); simp [s9, s11, c2']; refine hK _ _ ?_; clear hK K)
        | (refine nw_region fun K hK => ?_; simp [s9, s11, c2']; refine hK _ _ ?_; clear hK K)
        | refine nw_seq ?_
        | refine nw_block ?_
        | (refine nw_yes ?_ ?_; focus (simp [s9, s11, c2']; done))
        | (refine nw_no ?_ ?_; focus (simp [s9, s11, c2']; done))
        | refine nw_skip ?_
        | refine nw_exit ?_
        | refine nw_ret ?_)
      refine nw_region fun K hK => ?_
      simp [s9, hv]
      refine (lawSame_ok ys _ _ v ho.sl (by omega)).mono fun w δ hr => ?_
      obtain ⟨rfl, hg⟩ := hr
      simp [contK, ]
      refine hK _ _ ?_
      clear hK K
      repeat (first
        | (refine nw_seq (nw_region fun K hK => ?_); simp [s9, e1]; refine hK _ _ ?_; clear hK K)
        | (refine nw_region fun K hK => ?_; simp [s9, e1]; refine hK _ _ ?_; clear hK K)
        | refine nw_seq ?_
        | refine nw_block ?_
        | (refine nw_yes ?_ ?_; focus (simp [s9, e1]; done))
        | (refine nw_no ?_ ?_; focus (simp [s9, e1]; done))
        | refine nw_skip ?_
        | refine nw_exit ?_
        | refine nw_ret ?_)
      exact ⟨19 - (m + 1), by omega, m + 1, rfl, by omega, by simp; omega, Fr.up hf hg⟩
  have : m = 19 := by omega
  subst this
  repeat (first
    | (refine nw_seq (nw_region fun K hK => ?_); simp [s9]; refine hK _ _ ?_; clear hK K)
    | (refine nw_region fun K hK => ?_; simp [s9]; refine hK _ _ ?_; clear hK K)
    | refine nw_seq ?_
    | refine nw_block ?_
    | (refine nw_yes ?_ ?_; focus (simp [s9]; done))
    | (refine nw_no ?_ ?_; focus (simp [s9]; done))
    | refine nw_skip ?_
    | refine nw_exit ?_
    | refine nw_ret ?_)
  refine nw_region fun K hK => ?_
  simp []
  have hA : ∀ b, Fr α'.n α' (α'.alloc b) := fun b => (Fr.refl _ _).alloc (Nat.le_refl _) b
  refine (lawSame_ok [⟨4, 0, 4611686018427387904⟩, ⟨4, 0, 4611686018427387904⟩, ⟨2, 0, 4611686018427387904⟩] 1 _ _ (lit_nodes [⟨4, 0, 4611686018427387904⟩, ⟨4, 0, 4611686018427387904⟩, ⟨2, 0, 4611686018427387904⟩] α' 0) (by simp)).mono fun w δ hr => ?_
  obtain ⟨rfl, hg⟩ := hr
  have hf2 := Fr.up (Fr.up hf (hA _)) hg
  simp [contK]
  refine (known3_ok _).mono fun w δ' hr => ?_
  obtain ⟨rfl, hg⟩ := hr
  simp [contK, ]
  refine hK _ _ ?_
  clear hK K
  repeat (first
    | (refine nw_seq (nw_region fun K hK => ?_); simp []; refine hK _ _ ?_; clear hK K)
    | (refine nw_region fun K hK => ?_; simp []; refine hK _ _ ?_; clear hK K)
    | refine nw_seq ?_
    | refine nw_block ?_
    | (refine nw_yes ?_ ?_; focus (simp []; done))
    | (refine nw_no ?_ ?_; focus (simp []; done))
    | refine nw_skip ?_
    | refine nw_exit ?_
    | refine nw_ret ?_)
  simp
  exact Fr.up hf2 hg
end Go.Proofs.Ytggkeldedennfaa

set_option linter.unusedVariables false
set_option linter.unusedSimpArgs false
namespace Go.Lay
open Go Go.RowKit

/-- the blocks of Z are as they were -/
def Zm (Z : Nat → Prop) (α0 α : AH) : Prop := ∀ i, Z i → α.get i = α0.get i
theorem Zm.refl (Z : Nat → Prop) (α : AH) : Zm Z α α := fun _ _ => rfl
/-- what is read there, of a block of Z -/
def zval (P : Program) (Z : Nat → Prop) (α0 : AH) (e : TypeId) (p : Value) (F : Value → Prop) : Prop := match p with
  | .pointer (some ⟨id, off, none⟩) => Z id ∧ ∃ v, aload P e (.pointer (some ⟨id, off, none⟩)) α0 = some v ∧ F v
  | _ => False
def LdOk (P : Program) (N : Nat) (Z : Nat → Prop) (α0 : AH) (ops : Array Oper) (o : Oper) (s : AS) (v : Value) : Prop :=
  guardOk ops o s ∧ fitsA N o.dst ∧ ((wantedA ops o s = true ∧ ∃ e x id off, o.op = .load e x ∧ ev s x = .pointer (some ⟨id, off, none⟩) ∧ Z id ∧ aload P e (.pointer (some ⟨id, off, none⟩)) α0 = some v) ∨ (wantedA ops o s = false ∧ v = undef))
theorem aload_same {P : Program} {e : TypeId} {id off : Nat} {α β : AH} (h : β.get id = α.get id) : aload P e (.pointer (some ⟨id, off, none⟩)) β = aload P e (.pointer (some ⟨id, off, none⟩)) α := by
  simp only [aload, h]
theorem LdOk.val {P : Program} {N : Nat} {Z : Nat → Prop} {α0 α : AH} {ops : Array Oper} {o : Oper} {s : AS} {v : Value} (h : LdOk P N Z α0 ops o s v) (hz : Zm Z α0 α) : ValOk P N ops o s α v := by
  obtain ⟨h1, h2, h3⟩ := h
  refine ⟨h1, h2, ?_⟩
  rcases h3 with ⟨w, e, x, id, off, ho, hx, hi, hl⟩ | h3
  · refine .inl ⟨w, ?_⟩
    rw [ho]
    simp only [aop, hx]
    rw [aload_same (hz id hi), hl]
    rfl
  · exact .inr h3

def NAnyZ (P : Program) (N : Nat) (ops : Array Oper) (K : AS → AH → Prop) (Z : Nat → Prop) (α0 : AH) (KS : List Nat) : Nat → Array Bool → AS → AH → Prop
  | 0, l, s, α => Region.ready .any ops l = [] ∧ K s α
  | n + 1, l, s, α => (Region.ready .any ops l = [] → K s α) ∧ ∀ i ∈ Region.ready .any ops l, NAt P N ops i (fun s' α' => (KS.contains i = true → Zm Z α0 α') ∧ NAnyZ P N ops K Z α0 KS n (l.setIfInBounds i true) s' α') s α
theorem nanyz_nany {P : Program} {N : Nat} {ops : Array Oper} {K : AS → AH → Prop} {Z : Nat → Prop} {α0 : AH} {KS : List Nat} (hsel : Region.noSelect ops = true) : ∀ (n : Nat) (l : Array Bool) (s : AS) (α : AH), NAnyZ P N ops K Z α0 KS n l s α → NAny P N ops K n l s α
  | 0, _, _, _, h => h
  | n + 1, _, _, _, h => ⟨h.1, fun i hi => nat_mono hsel (h.2 i hi) fun _ _ hh => nanyz_nany hsel n _ _ _ hh.2⟩

theorem nat_commZ {P : Program} {N : Nat} {ops : Array Oper} {j : Nat} {oi oj : Oper} {V : AS → Prop} (hj : ops[j]? = some oj) (hsel : ∀ cs b, oj.op ≠ .select cs b) (hap : oi.apart ops oj = true) {v : Value} {s : AS} {α : AH}
    {F F' : AS → AH → Prop} (hV : V s) (hVs : ∀ u, V s → V (putA s oj.dst u)) (hn : NAt P N ops j F (putA s oi.dst v) α)
    (hF : ∀ s' α', V s' → (calmA oj.op = true → α' = α) → F (putA s' oi.dst v) α' → F' s' α') : NAt P N ops j F' s α := by
  obtain ⟨h1, h2, h3⟩ := Oper.apart_spec hap
  unfold NAt at hn ⊢
  rw [hj] at hn ⊢
  obtain ⟨hg, hn⟩ := hn
  have hl := looks_guard (ops := ops) (o := oj) (s := s) (v := v) h1
  refine ⟨hl.1.1 hg, ?_⟩
  rw [hl.2] at hn
  split at hn
  · rename_i hw
    rw [if_pos hw]
    refine nop_congr hsel (looks_ev h1) hn fun u α' hk hf => ?_
    have hα : calmA oj.op = true → α' = α := fun hc => by
      rcases hk with hk | hk
      · exact calm_same hc hk
      · rcases hk with hk | hk
        · exact hk
        · rw [hk] at hc; cases hc
    refine hF _ α' (hVs u hV) hα ?_
    rw [← putA_comm h2]
    exact hf
  · rename_i hw
    rw [if_neg hw]
    refine ⟨hn.1, hF _ α (hVs undef hV) (fun _ => rfl) ?_⟩
    rw [← putA_comm h2]
    exact hn.2
theorem LdOk.put {P : Program} {N : Nat} {Z : Nat → Prop} {α0 : AH} {ops : Array Oper} {oi oj : Oper} {s : AS} {v u : Value} (hap : oi.apart ops oj = true) (h : LdOk P N Z α0 ops oi s v) : LdOk P N Z α0 ops oi (putA s oj.dst u) v := by
  obtain ⟨h1, h2, h3⟩ := Oper.apart_spec hap
  obtain ⟨g1, g2, g3⟩ := h
  have hli := looks_guard (ops := ops) (o := oi) (s := s) (v := u) h3
  refine ⟨hli.1.2 g1, g2, ?_⟩
  rw [hli.2]
  rcases g3 with ⟨w1, e, x, id, off, ho, hx, hi, hl⟩ | w
  · refine .inl ⟨w1, e, x, id, off, ho, ?_, hi, hl⟩
    rw [looks_ev h3 x (by rw [ho]; simp [Op.operands])]
    exact hx
  · exact .inr w
theorem self_at {P : Program} {N : Nat} {ops : Array Oper} {i : Nat} {oi : Oper} (hi : ops[i]? = some oi) {v : Value} {F : AS → AH → Prop} {s : AS} {α : AH} (hv : ValOk P N ops oi s α v) (H : F (putA s oi.dst v) α) : NAt P N ops i F s α := by
  obtain ⟨g1, g2, g3⟩ := hv
  unfold NAt
  rw [hi]
  refine ⟨g1, ?_⟩
  rcases g3 with ⟨w1, w2⟩ | ⟨w1, w2⟩
  · rw [if_pos w1]
    refine ⟨g2, ?_⟩
    obtain ⟨dst, op, type, pos, after, guard⟩ := oi
    cases op with
    | call c =>
      obtain ⟨callee, args, ts⟩ := c
      cases callee with
      | builtin b => simp only at w2 ⊢; rw [w2]; exact H
      | value f => simp [aop] at w2
      | invoke r n => simp [aop] at w2
    | _ => simp only at w2 ⊢; rw [w2]; exact H
  · rw [if_neg (by rw [w1]; simp)]
    subst w2
    exact ⟨g2, H⟩

/-- one that others can't disturb, looked at first -/
theorem nanyz_first {P : Program} {N : Nat} {ops : Array Oper} {K : AS → AH → Prop} {Z : Nat → Prop} {α0 : AH} {KS : List Nat} (hsel : Region.noSelect ops = true) {i : Nat} {oi : Oper} (hi : ops[i]? = some oi) (hks : KS.contains i = false) {v : Value} :
    ∀ (n : Nat) (l : Array Bool) (s : AS) (α : AH), Closed ops l → Frees ops oi i l → i ∈ Region.ready .any ops l → ValOk P N ops oi s α v → NAnyZ P N ops K Z α0 KS n (l.setIfInBounds i true) (putA s oi.dst v) α → NAnyZ P N ops K Z α0 KS (n + 1) l s α := by
  intro n
  induction n with
  | zero =>
    intro l s α hc hf hr hv H
    refine ⟨fun h => (by rw [h] at hr; cases hr), fun j hj => ?_⟩
    by_cases hji : j = i
    · subst hji; exact self_at hi hv ⟨fun hk => (by rw [hks] at hk; cases hk), H⟩
    · have := ready_mono hj hji
      rw [H.1] at this
      cases this
  | succ n ih =>
    intro l s α hc hf hr hv H
    refine ⟨fun h => (by rw [h] at hr; cases hr), fun j hj => ?_⟩
    by_cases hji : j = i
    · subst hji; exact self_at hi hv ⟨fun hk => (by rw [hks] at hk; cases hk), H⟩
    · have h1 := H.2 j (ready_mono hj hji)
      obtain ⟨hjun, oj, hoj, hall⟩ := ready_aft hj
      have hiun := (ready_aft hr).1
      have hnd := ready_nodep hc (unlisted_false hiun) hj ops.size
      obtain ⟨hap, hcm⟩ := hf j oj hoj hji hjun hnd
      refine nat_comm hoj (fun cs b => Region.noSelect_spec hsel j oj cs b hoj) hap hcm hv h1 fun s' α' hv' H' => ⟨H'.1, ?_⟩
      refine ih (l.setIfInBounds j true) s' α' (hc.set hj) ?_ (ready_mono hr (Ne.symm hji)) hv' ?_
      · intro k ok hk hki hun hd
        refine hf k ok hk hki ?_ hd
        by_cases hjk : j = k
        · subst hjk; exact hjun
        · rw [getD_set_ne true hjk] at hun; exact hun
      · rw [Array.setIfInBounds_comm _ _ hji]; exact H'.2
def FreesZ (ops : Array Oper) (oi : Oper) (i : Nat) (KS : List Nat) (l : Array Bool) : Prop := ∀ j oj, ops[j]? = some oj → j ≠ i → l.getD j true = false → dep ops ops.size j i = false → oi.apart ops oj = true ∧ (calmA oj.op = true ∨ KS.contains j = true)
/-- one that looks at what stays, looked at first -/
theorem nanyz_ld {P : Program} {N : Nat} {ops : Array Oper} {K : AS → AH → Prop} {Z : Nat → Prop} {α0 : AH} {KS : List Nat} (hsel : Region.noSelect ops = true) {i : Nat} {oi : Oper} (hi : ops[i]? = some oi) {v : Value} :
    ∀ (n : Nat) (l : Array Bool) (s : AS) (α : AH), Zm Z α0 α → Closed ops l → FreesZ ops oi i KS l → i ∈ Region.ready .any ops l → LdOk P N Z α0 ops oi s v → NAnyZ P N ops K Z α0 KS n (l.setIfInBounds i true) (putA s oi.dst v) α → NAnyZ P N ops K Z α0 KS (n + 1) l s α := by
  intro n
  induction n with
  | zero =>
    intro l s α hz hc hf hr hv H
    refine ⟨fun h => (by rw [h] at hr; cases hr), fun j hj => ?_⟩
    by_cases hji : j = i
    · subst hji; exact self_at hi (hv.val hz) ⟨fun _ => hz, H⟩
    · have := ready_mono hj hji
      rw [H.1] at this
      cases this
  | succ n ih =>
    intro l s α hz hc hf hr hv H
    refine ⟨fun h => (by rw [h] at hr; cases hr), fun j hj => ?_⟩
    by_cases hji : j = i
    · subst hji; exact self_at hi (hv.val hz) ⟨fun _ => hz, H⟩
    · have h1 := H.2 j (ready_mono hj hji)
      obtain ⟨hjun, oj, hoj, hall⟩ := ready_aft hj
      have hiun := (ready_aft hr).1
      have hnd := ready_nodep hc (unlisted_false hiun) hj ops.size
      obtain ⟨hap, hcm⟩ := hf j oj hoj hji hjun hnd
      refine nat_commZ (V := fun s => LdOk P N Z α0 ops oi s v) hoj (fun cs b => Region.noSelect_spec hsel j oj cs b hoj) hap hv (fun u h => h.put hap) h1 fun s' α' hv' hα H' => ⟨H'.1, ?_⟩
      have hz' : Zm Z α0 α' := by
        rcases hcm with hcm | hcm
        · rw [hα hcm]; exact hz
        · exact H'.1 hcm
      refine ih (l.setIfInBounds j true) s' α' hz' (hc.set hj) ?_ (ready_mono hr (Ne.symm hji)) hv' ?_
      · intro k ok hk hki hun hd
        refine hf k ok hk hki ?_ hd
        by_cases hjk : j = k
        · subst hjk; exact hjun
        · rw [getD_set_ne true hjk] at hun; exact hun
      · rw [Array.setIfInBounds_comm _ _ hji]; exact H'.2

mutual
inductive ZT where
  | done
  | take (i : Nat) (t : ZT)
  | ld (i : Nat) (t : ZT)
  | pick (c : ZC)
inductive ZC where
  | nil
  | cons (i : Nat) (k : Bool) (t : ZT) (c : ZC)
end
def zidx : ZC → List Nat
  | .nil => []
  | .cons i _ _ c => i :: zidx c
def freeZB (ops : Array Oper) (KS : List Nat) (l : Array Bool) (i : Nat) : Bool :=
  match ops[i]? with
  | some oi => (List.range ops.size).all fun j => j == i || l.getD j true || dep ops ops.size j i || match ops[j]? with | some oj => oi.apart ops oj && (calmA oj.op || KS.contains j) | none => true
  | none => false
mutual
def zOk (ops : Array Oper) (KS : List Nat) : ZT → Nat → Array Bool → Bool → Bool
  | .done, _, l, _ => (Region.ready .any ops l).isEmpty
  | .take i t, n + 1, l, g => closedB ops l && freeB ops l i && (Region.ready .any ops l).contains i && !KS.contains i && zOk ops KS t n (l.setIfInBounds i true) g
  | .ld i t, n + 1, l, g => g && closedB ops l && freeZB ops KS l i && (Region.ready .any ops l).contains i && zOk ops KS t n (l.setIfInBounds i true) g
  | .pick c, n + 1, l, g => ((Region.ready .any ops l).all fun j => (zidx c).contains j) && !(Region.ready .any ops l).isEmpty && zcOk ops KS c n l
  | _, 0, _, _ => false
def zcOk (ops : Array Oper) (KS : List Nat) : ZC → Nat → Array Bool → Bool
  | .nil, _, _ => true
  | .cons i k t c, n, l => (k == KS.contains i) && zOk ops KS t n (l.setIfInBounds i true) k && zcOk ops KS c n l
end
theorem freeZB_spec {ops : Array Oper} {KS : List Nat} {l : Array Bool} {i : Nat} {oi : Oper} (hi : ops[i]? = some oi) (h : freeZB ops KS l i = true) : FreesZ ops oi i KS l := by
  simp only [freeZB, hi, List.all_eq_true, List.mem_range] at h
  refine fun j oj hj hne hun hnd => ?_
  have h1 := h j (Array.getElem?_eq_some_iff.1 hj).1
  rw [hj] at h1
  simp only [Bool.or_eq_true, beq_iff_eq, hne, false_or, hun, hnd, Bool.false_eq_true, Bool.and_eq_true] at h1
  exact h1
def NLd (P : Program) (N : Nat) (Z : Nat → Prop) (α0 : AH) (ops : Array Oper) (i : Nat) (F : AS → AH → Prop) (s : AS) (α : AH) : Prop :=
  match ops[i]? with
  | some o => ∃ v, LdOk P N Z α0 ops o s v ∧ F (putA s o.dst v) α
  | none => False
mutual
def NTrZ (P : Program) (N : Nat) (ops : Array Oper) (K : AS → AH → Prop) (Z : Nat → Prop) (α0 : AH) : ZT → AS → AH → Prop
  | .done, s, α => K s α
  | .take i t, s, α => NTake P N ops i (NTrZ P N ops K Z α0 t) s α
  | .ld i t, s, α => NLd P N Z α0 ops i (NTrZ P N ops K Z α0 t) s α
  | .pick c, s, α => NChZ P N ops K Z α0 c s α
def NChZ (P : Program) (N : Nat) (ops : Array Oper) (K : AS → AH → Prop) (Z : Nat → Prop) (α0 : AH) : ZC → AS → AH → Prop
  | .nil, _, _ => True
  | .cons i k t c, s, α => NAt P N ops i (fun s' α' => (k = true → Zm Z α0 α') ∧ NTrZ P N ops K Z α0 t s' α') s α ∧ NChZ P N ops K Z α0 c s α
end
theorem nchz_mem {P : Program} {N : Nat} {ops : Array Oper} {K : AS → AH → Prop} {Z : Nat → Prop} {α0 : AH} {KS : List Nat} {s : AS} {α : AH} {n : Nat} {l : Array Bool} : ∀ (c : ZC), zcOk ops KS c n l = true → NChZ P N ops K Z α0 c s α → ∀ i ∈ zidx c,
    ∃ t : ZT, SizeOf.sizeOf t < SizeOf.sizeOf c ∧ zOk ops KS t n (l.setIfInBounds i true) (KS.contains i) = true ∧ NAt P N ops i (fun s' α' => (KS.contains i = true → Zm Z α0 α') ∧ NTrZ P N ops K Z α0 t s' α') s α
  | .nil, _, _, i, hi => by simp [zidx] at hi
  | .cons j k t c, hok, hn, i, hi => by
    simp only [zcOk, Bool.and_eq_true, beq_iff_eq] at hok
    simp only [NChZ] at hn
    simp only [zidx, List.mem_cons] at hi
    obtain ⟨⟨hk, h1⟩, h2⟩ := hok
    subst hk
    rcases hi with rfl | hi
    · exact ⟨t, by simp; omega, h1, hn.1⟩
    · obtain ⟨t', h3, h4⟩ := nchz_mem c h2 hn.2 i hi
      exact ⟨t', by simp; omega, h4⟩
theorem nanyz_done {P : Program} {N : Nat} {ops : Array Oper} {K : AS → AH → Prop} {Z : Nat → Prop} {α0 : AH} {KS : List Nat} {l : Array Bool} {s : AS} {α : AH} (hr : Region.ready .any ops l = []) (h : K s α) : ∀ n, NAnyZ P N ops K Z α0 KS n l s α
  | 0 => ⟨hr, h⟩
  | _ + 1 => ⟨fun _ => h, by rw [hr]; simp⟩
theorem ntrz_sound {P : Program} {N : Nat} {ops : Array Oper} {K : AS → AH → Prop} {Z : Nat → Prop} {α0 : AH} {KS : List Nat} (hsel : Region.noSelect ops = true) (t : ZT) (n : Nat) (l : Array Bool) (g : Bool) (s : AS) (α : AH) (hg : g = true → Zm Z α0 α)
    (hok : zOk ops KS t n l g = true) (hn : NTrZ P N ops K Z α0 t s α) : NAnyZ P N ops K Z α0 KS n l s α := by
  match t, n, hok, hn with
  | .done, n, hok, hn =>
    simp only [zOk, List.isEmpty_iff] at hok
    simp only [NTrZ] at hn
    exact nanyz_done hok hn n
  | .take i t, n + 1, hok, hn =>
    simp only [zOk, Bool.and_eq_true, Bool.not_eq_true'] at hok
    obtain ⟨⟨⟨⟨h1, h2⟩, h3⟩, hks⟩, h4⟩ := hok
    simp only [NTrZ, NTake] at hn
    cases ho : ops[i]? with
    | none => rw [ho] at hn; exact hn.elim
    | some o =>
      rw [ho] at hn
      obtain ⟨g1, g2, g3⟩ := hn
      obtain ⟨hcalm, hfree⟩ := freeB_spec ho h2
      split at g3
      · rename_i hw
        cases hop : aop P o.op s α with
        | none => rw [hop] at g3; exact g3.elim
        | some r =>
          obtain ⟨v, α'⟩ := r
          rw [hop] at g3
          obtain rfl := calm_same hcalm hop
          exact nanyz_first hsel ho hks n l s α' (closedB_spec h1) hfree (by simpa using h3) ⟨g1, g2, .inl ⟨hw, hop⟩⟩ (ntrz_sound hsel t n _ g _ _ hg h4 g3)
      · rename_i hw
        exact nanyz_first hsel ho hks n l s α (closedB_spec h1) hfree (by simpa using h3) ⟨g1, g2, .inr ⟨by simpa using hw, rfl⟩⟩ (ntrz_sound hsel t n _ g _ _ hg h4 g3)
  | .ld i t, n + 1, hok, hn =>
    simp only [zOk, Bool.and_eq_true] at hok
    obtain ⟨⟨⟨⟨h0, h1⟩, h2⟩, h3⟩, h4⟩ := hok
    simp only [NTrZ, NLd] at hn
    cases ho : ops[i]? with
    | none => rw [ho] at hn; exact hn.elim
    | some o =>
      rw [ho] at hn
      obtain ⟨v, g1, g2⟩ := hn
      exact nanyz_ld hsel ho n l s α (hg h0) (closedB_spec h1) (freeZB_spec ho h2) (by simpa using h3) g1 (ntrz_sound hsel t n _ g _ _ hg h4 g2)
  | .pick c, n + 1, hok, hn =>
    simp only [zOk, Bool.and_eq_true, List.all_eq_true, List.contains_iff_mem] at hok
    obtain ⟨⟨h1, h2⟩, h3⟩ := hok
    simp only [NTrZ] at hn
    refine ⟨fun h0 => by rw [h0] at h2; simp at h2, fun i hi => ?_⟩
    obtain ⟨t, ht, ht1, ht2⟩ := nchz_mem c h3 hn i (by simpa using h1 i hi)
    exact nat_mono hsel ht2 fun s' α' hh => ⟨hh.1, ntrz_sound hsel t n _ _ s' α' hh.1 ht1 hh.2⟩
termination_by SizeOf.sizeOf t
def zCheck (ops : Array Oper) (KS : List Nat) (t : ZT) : Bool := Region.noSelect ops && zOk ops KS t ops.size (Array.replicate ops.size false) true
theorem nw_drawz {P : Program} {N : Nat} {Q : Exit → AS → AH → Prop} {s : AS} {α : AH} {id : Nat} {l : List Oper} (Z : Nat → Prop) (KS : List Nat) (t : ZT) (hm : P.follows .mixedOrders = true) (hok : zCheck l.toArray KS t = true)
    (h : ∀ K : AS → AH → Prop, (∀ s α, Q .normal s α → K s α) → NTrZ P N l.toArray K Z α t s α) : NW P N (.region id l.toArray true) Q s α := fun G m0 m a w h1 h2 h3 => by
  simp only [zCheck, Bool.and_eq_true] at hok
  exact wp_region_any hm (nany_sound (Q := Q) (fun _ _ h => h) _ _ m α _ s a h1 (h2.drew _) h3 (nanyz_nany hok.1 _ _ _ _ (ntrz_sound hok.1 t _ _ true s α (fun _ => .refl _ _) hok.2 (h _ fun _ _ h => h))))
end Go.Lay

set_option linter.unusedVariables false
set_option linter.unusedSimpArgs false
namespace Go.Lay
open Go Go.RowKit
universe u
/- Wraps what is to be looked into, so that simp goes there and nowhere else. -/
def nx {α : Sort u} (x : α) : α := x
@[simp] theorem nx_eq {α : Sort u} (x : α) : nx x = x := congrFun (show nx = fun x : α => x from funext fun _ => rfl) x

structure both (p A B : Prop) : Prop where
  y : p → A
  n : ¬p → B
def bo (p A B : Prop) : Prop := both p A B
def gvl : Value → Bool → Option Prop
  | .bool b, w => some (b = w)
  | .tuple _, _ => some False
  | _, _ => none
def gts : List Oper → Nat → AS → Value
  | [], _, _ => undef
  | o :: _, 0, s => match o.dst with
    | some t => s t
    | none => undef
  | _ :: l, n + 1, s => gts l n s
theorem gts_eq : ∀ (l : List Oper) (j : Nat) (s : AS), gts l j s = match (l.toArray[j]?).bind (·.dst) with | some t => s t | none => undef
  | [], j, s => by simp [gts]
  | o :: l, 0, s => by simp [gts]
  | o :: l, j + 1, s => by rw [gts, gts_eq l j s]; simp
/-- an operation that is done -/
def wdo (P : Program) (o : Oper) (F : AS → AH → Prop) (s : AS) (α : AH) : Prop :=
  match o.op with
  | .call ⟨.value f, args, _⟩ => match ev s f with
    | .func (.func g) first captured => NCalls P g (first.toList ++ args.toList.map (ev s) ++ captured.toList) α (contK F s o.dst)
    | _ => False
  | .call ⟨.invoke r name, args, _⟩ => NInvoke P (ev s r) name (args.toList.map (ev s)) α (contK F s o.dst)
  | op => match aop P op s α with
    | some (v, α') => F (putA s o.dst v) α'
    | none => NPure P o s α (contK F s o.dst)
def wgd (ops : List Oper) (o : Oper) (A B : Prop) (s : AS) : Prop :=
  match o.guard with
  | none => A
  | some (j, w) => ∃ g, gvl (gts ops j s) w = some g ∧ bo g A B
def wops (P : Program) (ops : List Oper) (Q : Exit → AS → AH → Prop) : List Oper → AS → AH → Prop
  | [], s, α => Q .normal s α
  | o :: r, s, α => wgd ops o (wdo P o (wops P ops Q r) s α) (wops P ops Q r (putA s o.dst undef) α) s
def nth : List Oper → Nat → Option Oper
  | [], _ => none
  | o :: _, 0 => some o
  | _ :: l, n + 1 => nth l n
theorem nth_eq : ∀ (l : List Oper) (j : Nat), nth l j = l.toArray[j]?
  | [], j => by simp [nth]
  | o :: l, 0 => by simp [nth]
  | o :: l, j + 1 => by rw [nth, nth_eq l j]; simp
/-- one that is looked at first: calm -/
def wtk (P : Program) (ops : List Oper) (F : AS → AH → Prop) (s : AS) (α : AH) : Option Oper → Prop
  | some o => wgd ops o (match aop P o.op s α with | some (v, _) => F (putA s o.dst v) α | none => False) (F (putA s o.dst undef) α) s
  | none => False
def wat (P : Program) (ops : List Oper) (F : AS → AH → Prop) (s : AS) (α : AH) : Option Oper → Prop
  | some o => wgd ops o (wdo P o F s α) (F (putA s o.dst undef) α) s
  | none => False
/-! ### guards that are not known: what is guarded is reckoned ahead, and said to be so if .. -/
abbrev Env := List (Nat × Prop × Value)
def elk : Env → Nat → Option (Prop × Value)
  | [], _ => none
  | (d, p, v) :: E, t => if t = d then some (p, v) else elk E t
open Classical in
noncomputable def sl (p : Prop) (v : Value) : Value := if p then v else undef
def mix (E : Env) (s : AS) : AS := fun t => match elk E t with
  | some (_, v) => v
  | none => s t
def okx (E : Env) (g : Prop) : Operand → Prop
  | .tmp t => match elk E t with
    | some (p, _) => g → p
    | none => True
  | _ => True
def okl (E : Env) (g : Prop) : List Operand → Prop
  | [] => True
  | x :: l => okx E g x ∧ okl E g l
def gtn : List Oper → Nat → Option Nat
  | [], _ => none
  | o :: _, 0 => o.dst
  | _ :: l, n + 1 => gtn l n
def gvE (E : Env) (s : AS) (t : Nat) (w : Bool) : Option Prop := match elk E t with
  | some (p, .bool b) => some (p ∧ b = w)
  | some _ => none
  | none => gvl (s t) w
def gdE (ops : List Oper) (o : Oper) (E : Env) (s : AS) : Option Prop := match o.guard with
  | none => some True
  | some (j, w) => match gtn ops j with
    | some t => gvE E s t w
    | none => none
def calmO : Op → Bool
  | .load .. => true
  | op => quietA op
def wEval (P : Program) (E : Env) (g : Prop) (op : Op) (s : AS) (α : AH) (v : Value) : Prop := match op with
  | .pick c a b => okx E g c ∧ ∃ cv, ev (mix E s) c = .bool cv ∧ okx E (g ∧ cv = true) a ∧ okx E (g ∧ cv = false) b ∧ apick (.bool cv) (ev (mix E s) a) (ev (mix E s) b) = some v
  | op => okl E g op.operands.toList ∧ aop P op (mix E s) α = some (v, α)
def pE (gd : Option (Nat × Bool)) (d : Nat) (g : Prop) (v : Value) (E : Env) : Env := match gd with
  | none => E
  | some _ => (d, g, v) :: E
noncomputable def vE (gd : Option (Nat × Bool)) (g : Prop) (v : Value) : Value := match gd with
  | none => v
  | some _ => sl g v
noncomputable def wE (P : Program) (ops : List Oper) (Q : Exit → AS → AH → Prop) : List Oper → Env → AS → AH → Prop
  | [], _, s, α => Q .normal s α
  | o :: r, E, s, α => ∃ g, gdE ops o E s = some g ∧ match o.dst with
    | none => bo g (wdo P o (wE P ops Q r E) s α) (wE P ops Q r E s α)
    | some d => elk E d = none ∧ if calmO o.op = true then ∃ v, wEval P E g o.op s α v ∧ wE P ops Q r (pE o.guard d g v E) (upd s d (vE o.guard g v)) α
      else bo g (wdo P o (wE P ops Q r E) s α) (wE P ops Q r E (upd s d undef) α)
mutual
def wtr (P : Program) (ops : List Oper) (Q : Exit → AS → AH → Prop) : Tr → AS → AH → Prop
  | .done, s, α => Q .normal s α
  | .take i t, s, α => wtk P ops (wtr P ops Q t) s α (nth ops i)
  | .pick c, s, α => wch P ops Q c s α
def wch (P : Program) (ops : List Oper) (Q : Exit → AS → AH → Prop) : Ch → AS → AH → Prop
  | .nil, _, _ => True
  | .cons i t c, s, α => wat P ops (wtr P ops Q t) s α (nth ops i) ∧ wch P ops Q c s α
end
def zlk (P : Program) (ops : List Oper) (Z : Nat → Prop) (α0 : AH) (F : AS → AH → Prop) (s : AS) (α : AH) : Option Oper → Prop
  | some o => wgd ops o (match o.op with
    | .load e x => zval P Z α0 e (ev s x) (fun v => F (putA s o.dst v) α)
    | _ => False) (F (putA s o.dst undef) α) s
  | none => False
mutual
def zwtr (P : Program) (ops : List Oper) (Q : Exit → AS → AH → Prop) (Z : Nat → Prop) (α0 : AH) : ZT → AS → AH → Prop
  | .done, s, α => Q .normal s α
  | .take i t, s, α => wtk P ops (zwtr P ops Q Z α0 t) s α (nth ops i)
  | .ld i t, s, α => zlk P ops Z α0 (zwtr P ops Q Z α0 t) s α (nth ops i)
  | .pick c, s, α => zwch P ops Q Z α0 c s α
def zwch (P : Program) (ops : List Oper) (Q : Exit → AS → AH → Prop) (Z : Nat → Prop) (α0 : AH) : ZC → AS → AH → Prop
  | .nil, _, _ => True
  | .cons i k t c, s, α => wat P ops (fun s' α' => (k = true → Zm Z α0 α') ∧ zwtr P ops Q Z α0 t s' α') s α (nth ops i) ∧ zwch P ops Q Z α0 c s α
end
def agn (I : Nat → AS → AH → Prop) (n : Nat) (s : AS) (α : AH) : Prop := ∃ n', n' < n ∧ I n' s α
theorem agn_mk {I : Nat → AS → AH → Prop} {n : Nat} {s : AS} {α : AH} (n' : Nat) (h : n' < n) (k : I n' s α) : agn I n s α := ⟨n', h, k⟩
def wc (v : Value) (A B : Prop) : Prop := match v with
  | .bool b => bo (b = true) A B
  | _ => False
noncomputable def wk (m : Bool) (P : Program) : Code → (Exit → AS → AH → Prop) → AS → AH → Prop
  | .skip, Q, s, α => Q .normal s α
  | .exit i, Q, s, α => Q (.exit i) s α
  | .ret, Q, s, α => Q .ret s α
  | .seq x y, Q, s, α => wk m P x (nthen (wk m P y Q) Q) s α
  | .cond c x y, Q, s, α => wc (ev s c) (wk m P x Q s α) (wk m P y Q s α)
  | .block i c, Q, s, α => wk m P c (nblock i Q) s α
  | .region i ops d, Q, s, α => if d = true then (∃ t, trCheck ops t = true ∧ wtr P ops.toList Q t s α) ∨ (∃ Z KS t, zCheck ops KS t = true ∧ zwtr P ops.toList Q Z α t s α) else if m = true then wE P ops.toList Q ops.toList [] s α else wops P ops.toList Q ops.toList s α
  | .loop c, Q, s, α => ∃ I n, I n s α ∧ ∀ n s α, I n s α → wk m P c (nthen (agn I n) Q) s α
  | _, _, _, _ => False

/-! ### more told, more so -/
section
variable {P : Program} {m : Bool}
theorem bo.mono {p A A' B B' : Prop} (h : bo p A B) (a : A → A') (b : B → B') : bo p A' B' := ⟨fun x => a (h.y x), fun x => b (h.n x)⟩
theorem wgd.mono {ops : List Oper} {o : Oper} {A A' B B' : Prop} {s : AS} (h : wgd ops o A B s) (a : A → A') (b : B → B') : wgd ops o A' B' s := by
  unfold wgd at h ⊢
  split
  · rename_i hg; rw [hg] at h; exact a h
  · rename_i j w hg; rw [hg] at h; obtain ⟨g, h1, h2⟩ := h; exact ⟨g, h1, h2.mono a b⟩
theorem wdo.mono {o : Oper} {F F' : AS → AH → Prop} {s : AS} {α : AH} (h : wdo P o F s α) (hF : ∀ v α', F (putA s o.dst v) α' → F' (putA s o.dst v) α') : wdo P o F' s α := by
  obtain ⟨dst, op, type, pos, after, guard⟩ := o
  have plain : (match aop P op s α with | some (v, α') => F (putA s dst v) α' | none => NPure P ⟨dst, op, type, pos, after, guard⟩ s α (contK F s dst)) →
      (match aop P op s α with | some (v, α') => F' (putA s dst v) α' | none => NPure P ⟨dst, op, type, pos, after, guard⟩ s α (contK F' s dst)) := fun hn => by
    cases hop : aop P op s α with
    | some r => rw [hop] at hn; exact hF _ _ hn
    | none => rw [hop] at hn; obtain ⟨v, h1, h2, h3, h4, h5⟩ := hn; exact ⟨v, h1, h2, h3, h4, hF _ _ h5⟩
  cases op with
  | call c =>
    obtain ⟨callee, args, ts⟩ := c
    cases callee with
    | builtin b => exact plain h
    | value f =>
      simp only [wdo] at h ⊢
      split at h
      · exact h.mono fun v α' hk => hF v α' hk
      · exact h.elim
    | invoke r n =>
      simp only [wdo] at h ⊢
      obtain ⟨t, v, g, rv, h1, h2, h3⟩ := h
      exact ⟨t, v, g, rv, h1, h2, h3.mono fun v α' hk => hF v α' hk⟩
  | _ => exact plain h

def frm (A : Nat → Bool) (s0 s : AS) : Prop := ∀ k, A k = false → s k = s0 k
theorem frm.put {A : Nat → Bool} {s0 s : AS} (h : frm A s0 s) {d : Option Nat} (hd : (match d with | some t => A t | none => true) = true) (v : Value) : frm A s0 (putA s d v) := fun k hk => by
  cases d with
  | none => exact h k hk
  | some t =>
    simp only [putA, upd]
    rw [if_neg (fun e => by subst e; simp only at hd; rw [hd] at hk; cases hk)]
    exact h k hk
def fitO (A : Nat → Bool) (o : Oper) : Bool := match o.dst with
  | some t => A t
  | none => true
def fitC (A : Nat → Bool) : Code → Bool
  | .seq x y => fitC A x && fitC A y
  | .cond _ x y => fitC A x && fitC A y
  | .block _ c => fitC A c
  | .loop c => fitC A c
  | .region _ ops _ => ops.toList.all (fitO A)
  | .skip | .exit _ | .ret => true
  | _ => false

/-- What holds then, and what is not written stays. -/
theorem wops.fr {A : Nat → Bool} {s0 : AS} {ops : List Oper} {Q Q' : Exit → AS → AH → Prop} (hQ : ∀ e s α, frm A s0 s → Q e s α → Q' e s α) : ∀ (l : List Oper) (s : AS) (α : AH), l.all (fitO A) = true → frm A s0 s → wops P ops Q l s α → wops P ops Q' l s α
  | [], s, α, _, hf, h => hQ _ _ _ hf h
  | o :: r, s, α, hl, hf, h => by
    simp only [List.all_cons, Bool.and_eq_true] at hl
    exact wgd.mono h (fun h => h.mono fun v α' hk => wops.fr hQ r _ _ hl.2 (hf.put hl.1 v) hk) (fun h => wops.fr hQ r _ _ hl.2 (hf.put hl.1 undef) h)
theorem wE.fr {A : Nat → Bool} {s0 : AS} {ops : List Oper} {Q Q' : Exit → AS → AH → Prop} (hQ : ∀ e s α, frm A s0 s → Q e s α → Q' e s α) : ∀ (l : List Oper) (E : Env) (s : AS) (α : AH), l.all (fitO A) = true → frm A s0 s → wE P ops Q l E s α → wE P ops Q' l E s α
  | [], E, s, α, _, hf, h => hQ _ _ _ hf h
  | o :: r, E, s, α, hl, hf, h => by
    simp only [List.all_cons, Bool.and_eq_true] at hl
    obtain ⟨g, h1, h2⟩ := h
    refine ⟨g, h1, ?_⟩
    have hd := hl.1
    unfold fitO at hd
    have put : ∀ v, frm A s0 (putA s o.dst v) := fun v => hf.put hl.1 v
    cases ho : o.dst with
    | none =>
      rw [ho] at h2 put
      exact h2.mono (fun h => h.mono fun v α' hk => wE.fr hQ r _ _ _ hl.2 (hf.put hl.1 v) hk) (fun h => wE.fr hQ r _ _ _ hl.2 hf h)
    | some d =>
      rw [ho] at h2 put
      obtain ⟨h2, h3⟩ := h2
      refine ⟨h2, ?_⟩
      split at h3
      · rename_i hc
        rw [if_pos hc]
        obtain ⟨v, h4, h5⟩ := h3
        exact ⟨v, h4, wE.fr hQ r _ _ _ hl.2 (put _) h5⟩
      · rename_i hc
        rw [if_neg hc]
        exact h3.mono (fun h => h.mono fun v α' hk => wE.fr hQ r _ _ _ hl.2 (hf.put hl.1 v) hk) (fun h => wE.fr hQ r _ _ _ hl.2 (put _) h)
theorem nth_all {A : Nat → Bool} : ∀ {l : List Oper} {i : Nat} {o : Oper}, l.all (fitO A) = true → nth l i = some o → fitO A o = true
  | [], _, _, _, h => by simp [nth] at h
  | o :: l, 0, _, hl, h => by simp [nth] at h; subst h; simp only [List.all_cons, Bool.and_eq_true] at hl; exact hl.1
  | o :: l, i + 1, _, hl, h => by simp only [List.all_cons, Bool.and_eq_true] at hl; exact nth_all hl.2 h
mutual
theorem wtr.fr {A : Nat → Bool} {s0 : AS} {ops : List Oper} {Q Q' : Exit → AS → AH → Prop} (hQ : ∀ e s α, frm A s0 s → Q e s α → Q' e s α) (ho : ops.all (fitO A) = true) : ∀ (t : Tr) (s : AS) (α : AH), frm A s0 s → wtr P ops Q t s α → wtr P ops Q' t s α
  | .done, s, α, hf, h => by rw [wtr] at h ⊢; exact hQ _ _ _ hf h
  | .take i t, s, α, hf, h => by
    rw [wtr] at h ⊢
    cases hi : nth ops i with
    | none => rw [hi] at h; exact h.elim
    | some o =>
      rw [hi] at h
      have hd := nth_all ho hi
      refine wgd.mono h (fun h => ?_) (fun h => wtr.fr hQ ho t _ _ (hf.put hd undef) h)
      split at h
      · exact wtr.fr hQ ho t _ _ (hf.put hd _) h
      · exact h.elim
  | .pick c, s, α, hf, h => by rw [wtr] at h ⊢; exact wch.fr hQ ho c s α hf h
theorem wch.fr {A : Nat → Bool} {s0 : AS} {ops : List Oper} {Q Q' : Exit → AS → AH → Prop} (hQ : ∀ e s α, frm A s0 s → Q e s α → Q' e s α) (ho : ops.all (fitO A) = true) : ∀ (c : Ch) (s : AS) (α : AH), frm A s0 s → wch P ops Q c s α → wch P ops Q' c s α
  | .nil, s, α, hf, h => by rw [wch]; trivial
  | .cons i t c, s, α, hf, h => by
    rw [wch] at h ⊢
    refine ⟨?_, wch.fr hQ ho c s α hf h.2⟩
    have h := h.1
    cases hi : nth ops i with
    | none => rw [hi] at h; exact h.elim
    | some o =>
      rw [hi] at h
      have hd := nth_all ho hi
      exact wgd.mono h (fun h => h.mono fun v α' hk => wtr.fr hQ ho t _ _ (hf.put hd v) hk) (fun h => wtr.fr hQ ho t _ _ (hf.put hd undef) h)
end
theorem zval.mono {Z : Nat → Prop} {α0 : AH} {e : TypeId} {p : Value} {F F' : Value → Prop} (h : zval P Z α0 e p F) (hF : ∀ v, F v → F' v) : zval P Z α0 e p F' := by
  unfold zval at h ⊢
  split at h
  · exact ⟨h.1, h.2.choose, h.2.choose_spec.1, hF _ h.2.choose_spec.2⟩
  · exact h.elim
mutual
theorem zwtr.fr {A : Nat → Bool} {s0 : AS} {ops : List Oper} {Q Q' : Exit → AS → AH → Prop} {Z : Nat → Prop} {α0 : AH} (hQ : ∀ e s α, frm A s0 s → Q e s α → Q' e s α) (ho : ops.all (fitO A) = true) : ∀ (t : ZT) (s : AS) (α : AH), frm A s0 s → zwtr P ops Q Z α0 t s α → zwtr P ops Q' Z α0 t s α
  | .done, s, α, hf, h => by rw [zwtr] at h ⊢; exact hQ _ _ _ hf h
  | .take i t, s, α, hf, h => by
    rw [zwtr] at h ⊢
    cases hi : nth ops i with
    | none => rw [hi] at h; exact h.elim
    | some o =>
      rw [hi] at h
      have hd := nth_all ho hi
      refine wgd.mono h (fun h => ?_) (fun h => zwtr.fr hQ ho t _ _ (hf.put hd undef) h)
      split at h
      · exact zwtr.fr hQ ho t _ _ (hf.put hd _) h
      · exact h.elim
  | .ld i t, s, α, hf, h => by
    rw [zwtr] at h ⊢
    cases hi : nth ops i with
    | none => rw [hi] at h; exact h.elim
    | some o =>
      rw [hi] at h
      have hd := nth_all ho hi
      refine wgd.mono h (fun h => ?_) (fun h => zwtr.fr hQ ho t _ _ (hf.put hd undef) h)
      split at h
      · exact h.mono fun v h => zwtr.fr hQ ho t _ _ (hf.put hd _) h
      · exact h.elim
  | .pick c, s, α, hf, h => by rw [zwtr] at h ⊢; exact zwch.fr hQ ho c s α hf h
theorem zwch.fr {A : Nat → Bool} {s0 : AS} {ops : List Oper} {Q Q' : Exit → AS → AH → Prop} {Z : Nat → Prop} {α0 : AH} (hQ : ∀ e s α, frm A s0 s → Q e s α → Q' e s α) (ho : ops.all (fitO A) = true) : ∀ (c : ZC) (s : AS) (α : AH), frm A s0 s → zwch P ops Q Z α0 c s α → zwch P ops Q' Z α0 c s α
  | .nil, s, α, hf, h => by rw [zwch]; trivial
  | .cons i k t c, s, α, hf, h => by
    rw [zwch] at h ⊢
    refine ⟨?_, zwch.fr hQ ho c s α hf h.2⟩
    have h := h.1
    cases hi : nth ops i with
    | none => rw [hi] at h; exact h.elim
    | some o =>
      rw [hi] at h
      have hd := nth_all ho hi
      exact wgd.mono h (fun h => h.mono fun v α' hk => ⟨hk.1, zwtr.fr hQ ho t _ _ (hf.put hd v) hk.2⟩) (fun h => ⟨h.1, zwtr.fr hQ ho t _ _ (hf.put hd undef) h.2⟩)
end
theorem wk.fr {A : Nat → Bool} {s0 : AS} : ∀ (c : Code) (Q Q' : Exit → AS → AH → Prop) (s : AS) (α : AH), (∀ e s α, frm A s0 s → Q e s α → Q' e s α) → fitC A c = true → frm A s0 s → wk m P c Q s α → wk m P c Q' s α
  | .skip, Q, Q', s, α, hQ, hc, hf, h => hQ _ _ _ hf h
  | .exit i, Q, Q', s, α, hQ, hc, hf, h => hQ _ _ _ hf h
  | .ret, Q, Q', s, α, hQ, hc, hf, h => hQ _ _ _ hf h
  | .seq x y, Q, Q', s, α, hQ, hc, hf, h => by
    simp only [fitC, Bool.and_eq_true] at hc
    simp only [wk] at h ⊢
    refine wk.fr x _ _ s α (fun e s α hf' h' => ?_) hc.1 hf h
    cases e <;> first | exact wk.fr y Q Q' s α hQ hc.2 hf' h' | exact hQ _ _ _ hf' h'
  | .cond c x y, Q, Q', s, α, hQ, hc, hf, h => by
    simp only [fitC, Bool.and_eq_true] at hc
    simp only [wk] at h ⊢
    unfold wc at h ⊢
    split at h
    · exact h.mono (wk.fr x Q Q' s α hQ hc.1 hf) (wk.fr y Q Q' s α hQ hc.2 hf)
    · exact h.elim
  | .block i c, Q, Q', s, α, hQ, hc, hf, h => by
    simp only [fitC] at hc
    simp only [wk] at h ⊢
    refine wk.fr c _ _ s α (fun e s α hf' h' => ?_) hc hf h
    cases e <;> simp only [nblock] at h' ⊢ <;> first | exact hQ _ _ _ hf' h' | skip
    split
    · rename_i he; rw [if_pos he] at h'; exact hQ _ _ _ hf' h'
    · rename_i he; rw [if_neg he] at h'; exact hQ _ _ _ hf' h'
  | .region i ops d, Q, Q', s, α, hQ, hc, hf, h => by
    simp only [fitC] at hc
    simp only [wk] at h ⊢
    split
    · rename_i hd; rw [if_pos hd] at h; rcases h with ⟨t, h1, h2⟩ | ⟨Z, KS, t, h1, h2⟩; exact .inl ⟨t, h1, wtr.fr hQ hc t s α hf h2⟩; exact .inr ⟨Z, KS, t, h1, zwtr.fr hQ hc t s α hf h2⟩
    · rename_i hd
      rw [if_neg hd] at h
      split
      · rename_i hm; rw [if_pos hm] at h; exact wE.fr hQ _ _ s α hc hf h
      · rename_i hm; rw [if_neg hm] at h; exact wops.fr hQ _ s α hc hf h
  | .loop c, Q, Q', s, α, hQ, hc, hf, h => by
    simp only [fitC] at hc
    simp only [wk] at h ⊢
    obtain ⟨I, n, h0, h⟩ := h
    refine ⟨fun n s α => I n s α ∧ frm A s0 s, n, ⟨h0, hf⟩, fun n s α ⟨h1, h2⟩ => wk.fr c _ _ s α (fun e s α hf' h' => ?_) hc h2 (h n s α h1)⟩
    cases e <;> first | (obtain ⟨n', k1, k2⟩ := h'; exact ⟨n', k1, k2, hf'⟩) | exact hQ _ _ _ hf' h'
  | .rangeFunc .., _, _, _, _, _, hc, _, _ | .scope .., _, _, _, _, _, hc, _, _ | .label .., _, _, _, _, _, hc, _, _ | .goto .., _, _, _, _, _, hc, _, _ | .refuse .., _, _, _, _, _, hc, _, _ => by simp [fitC] at hc

/-! ### it is so -/
theorem bo_and {A B C : Prop} {g : Bool} {w : Option Bool} (hw : w = some g) {want : Bool} (h : bo (g = want) A B) (a : A → C) (b : B → C) : C := by
  by_cases hg : g = want
  · exact a (h.y hg)
  · exact b (h.n hg)
theorem wgd_sound {ops : List Oper} {o : Oper} {A B : Prop} {s : AS} (h : wgd ops o A B s) : guardOk ops.toArray o s ∧ (wantedA ops.toArray o s = true → A) ∧ (wantedA ops.toArray o s = false → B) := by
  unfold wgd at h
  unfold guardOk wantedA yieldedA
  cases hg : o.guard with
  | none => rw [hg] at h; exact ⟨trivial, fun _ => h, fun h => by cases h⟩
  | some jw =>
    obtain ⟨j, w⟩ := jw
    rw [hg] at h
    obtain ⟨g, h1, h2⟩ := h
    rw [gts_eq] at h1
    simp only
    cases ht : (ops.toArray[j]?).bind (·.dst) with
    | none =>
      rw [ht] at h1
      simp only [undef, gvl, Option.some.injEq] at h1
      subst h1
      exact ⟨trivial, fun h => by simp at h, fun _ => h2.n id⟩
    | some t =>
      rw [ht] at h1
      simp only at h1 ⊢
      refine ⟨fun hj => by rw [hj] at h1; simp [gvl, junk] at h1, ?_⟩
      unfold gvl at h1
      split at h1
      · rename_i b w' hb
        injection h1 with h1
        subst h1
        rw [hb]
        refine ⟨fun h => h2.y (by simpa using h), fun h => h2.n (by simpa using h)⟩
      · rename_i b w' hb
        injection h1 with h1
        subst h1
        rw [hb]
        exact ⟨fun h => by simp at h, fun _ => h2.n id⟩
      · cases h1
theorem wdo_nop {N : Nat} {o : Oper} {F : AS → AH → Prop} {s : AS} {α : AH} (hd : fitsA N o.dst) (h : wdo P o F s α) : NOp P N o F s α := by
  refine ⟨hd, ?_⟩
  obtain ⟨dst, op, type, pos, after, guard⟩ := o
  cases op with
  | call c =>
    obtain ⟨callee, args, ts⟩ := c
    cases callee <;> exact h
  | _ => exact h
def ltB (N : Nat) : Nat → Bool := fun k => decide (k < N)
theorem fit_lt {N : Nat} {o : Oper} (h : fitO (ltB N) o = true) : fitsA N o.dst := by
  unfold fitO at h
  cases hd : o.dst with
  | none => trivial
  | some t => rw [hd] at h; simpa [ltB] using h
theorem wops_nops {N : Nat} {ops : List Oper} {Q : Exit → AS → AH → Prop} {K : AS → AH → Prop} (hK : ∀ s α, Q .normal s α → K s α) : ∀ (l : List Oper) (s : AS) (α : AH), l.all (fitO (ltB N)) = true → wops P ops Q l s α → NOps P N ops.toArray K l s α
  | [], s, α, _, h => hK s α h
  | o :: r, s, α, hl, h => by
    simp only [List.all_cons, Bool.and_eq_true] at hl
    obtain ⟨h1, h2, h3⟩ := wgd_sound h
    refine ⟨h1, ?_⟩
    cases hw : wantedA ops.toArray o s with
    | true => rw [if_pos rfl]; exact wdo_nop (fit_lt hl.1) ((h2 hw).mono fun v α' hk => wops_nops hK r _ _ hl.2 hk)
    | false => rw [if_neg (by simp)]; exact ⟨fit_lt hl.1, wops_nops hK r _ _ hl.2 (h3 hw)⟩
theorem gtn_eq : ∀ (l : List Oper) (j : Nat), gtn l j = (l.toArray[j]?).bind (·.dst)
  | [], j => by simp [gtn]
  | o :: l, 0 => by simp [gtn]
  | o :: l, j + 1 => by rw [gtn, gtn_eq l j]; simp
theorem sl_pos {p : Prop} {v : Value} (h : p) : sl p v = v := if_pos h
theorem sl_neg {p : Prop} {v : Value} (h : ¬p) : sl p v = undef := if_neg h
def Inv (E : Env) (s : AS) : Prop := ∀ t p v, elk E t = some (p, v) → s t = sl p v
theorem okx_ev {E : Env} {s : AS} (hI : Inv E s) {g : Prop} (hg : g) {x : Operand} (h : okx E g x) : ev s x = ev (mix E s) x := by
  cases x with
  | tmp t =>
    simp only [okx] at h
    simp only [ev, mix]
    cases he : elk E t with
    | none => rfl
    | some pv =>
      obtain ⟨p, v⟩ := pv
      rw [he] at h
      rw [hI t p v he, sl_pos (h hg)]
  | _ => rfl
theorem okl_ev {E : Env} {s : AS} (hI : Inv E s) {g : Prop} (hg : g) : ∀ {l : List Operand}, okl E g l → ∀ x ∈ l, ev s x = ev (mix E s) x
  | [], _, x, hx => by cases hx
  | y :: l, h, x, hx => by
    rcases List.mem_cons.1 hx with rfl | hx
    · exact okx_ev hI hg h.1
    · exact okl_ev hI hg h.2 x hx
theorem apick_t (a b : Value) : apick (.bool true) a b = some a := by unfold apick; cases a <;> cases b <;> rfl
theorem apick_f (a b : Value) : apick (.bool false) a b = some b := by unfold apick; cases a <;> cases b <;> rfl
theorem wEval_aop {E : Env} {s : AS} (hI : Inv E s) {g : Prop} (hg : g) {op : Op} {α : AH} {v : Value} (h : wEval P E g op s α v) : aop P op s α = some (v, α) := by
  have gen : okl E g op.operands.toList ∧ aop P op (mix E s) α = some (v, α) → aop P op s α = some (v, α) := fun ⟨h1, h2⟩ => by
    rw [← h2]
    exact aop_congr fun x hx => okl_ev hI hg h1 x (by simpa using hx)
  cases op with
  | pick c a b =>
    obtain ⟨h1, cv, h2, h3, h4, h5⟩ := h
    have hc := okx_ev hI hg h1
    simp only [aop, keep, hc, h2]
    cases cv with
    | true => rw [apick_t] at h5 ⊢; rw [okx_ev hI ⟨hg, rfl⟩ h3]; cases h5; rfl
    | false => rw [apick_f] at h5 ⊢; rw [okx_ev hI ⟨hg, rfl⟩ h4]; cases h5; rfl
  | _ => exact gen h
theorem gdE_sound {ops : List Oper} {o : Oper} {E : Env} {s : AS} (hI : Inv E s) {g : Prop} (h : gdE ops o E s = some g) : guardOk ops.toArray o s ∧ (wantedA ops.toArray o s = true ↔ g) := by
  unfold gdE at h
  unfold guardOk wantedA yieldedA
  cases hg : o.guard with
  | none => rw [hg] at h; cases h; exact ⟨trivial, by simp⟩
  | some jw =>
    obtain ⟨j, w⟩ := jw
    rw [hg] at h
    simp only at h ⊢
    rw [gtn_eq] at h
    cases ht : (ops.toArray[j]?).bind (·.dst) with
    | none => rw [ht] at h; cases h
    | some t =>
      rw [ht] at h
      simp only [gvE] at h
      simp only
      cases he : elk E t with
      | some pv =>
        obtain ⟨p, v⟩ := pv
        rw [he] at h
        cases v <;> first | (cases h; done) | skip
        rename_i b
        simp only [Option.some.injEq] at h
        subst h
        have hs := hI t p _ he
        by_cases hp : p
        · rw [hs, sl_pos hp]; simp [hp, junk]
        · rw [hs, sl_neg hp]; simp [hp, junk, undef]
      | none =>
        rw [he] at h
        dsimp only at h
        unfold gvl at h
        split at h
        · rename_i hv; cases h; rw [hv]; simp [junk]
        · rename_i hv; cases h; rw [hv]; simp [junk]
        · cases h
theorem Inv.put {E : Env} {s : AS} (hI : Inv E s) {d : Nat} (hd : elk E d = none) (v : Value) : Inv E (upd s d v) := fun t p u he => by
  simp only [upd]
  rw [if_neg (fun h => by subst h; rw [hd] at he; cases he)]
  exact hI t p u he
theorem wE_nops {N : Nat} {ops : List Oper} {Q : Exit → AS → AH → Prop} {K : AS → AH → Prop} (hK : ∀ s α, Q .normal s α → K s α) : ∀ (l : List Oper) (E : Env) (s : AS) (α : AH), Inv E s → l.all (fitO (ltB N)) = true → wE P ops Q l E s α → NOps P N ops.toArray K l s α
  | [], E, s, α, _, _, h => hK s α h
  | o :: r, E, s, α, hI, hl, h => by
    simp only [List.all_cons, Bool.and_eq_true] at hl
    obtain ⟨g, h1, h2⟩ := h
    obtain ⟨k1, k2⟩ := gdE_sound hI h1
    refine ⟨k1, ?_⟩
    have hfit := fit_lt hl.1
    have rough : bo g (wdo P o (wE P ops Q r E) s α) (wE P ops Q r E (putA s o.dst undef) α) → (∀ d, o.dst = some d → elk E d = none) → if wantedA ops.toArray o s = true then NOp P N o (kont P N ops.toArray K r) s α else fitsA N o.dst ∧ NOps P N ops.toArray K r (putA s o.dst undef) α := fun hb hd => by
      have hput : ∀ v, Inv E (putA s o.dst v) := fun v => by
        cases ho : o.dst with
        | none => exact hI
        | some d => exact hI.put (hd d ho) v
      by_cases hg : g
      · rw [if_pos (k2.2 hg)]; exact wdo_nop hfit ((hb.y hg).mono fun v α' hk => wE_nops hK r E _ _ (hput v) hl.2 hk)
      · rw [if_neg (fun hw => hg (k2.1 hw))]; exact ⟨hfit, wE_nops hK r E _ _ (hput _) hl.2 (hb.n hg)⟩
    cases ho : o.dst with
    | none =>
      rw [ho] at h2
      have := rough (by rw [ho]; exact h2) (fun d hd => by rw [ho] at hd; cases hd)
      rw [ho] at this
      exact this
    | some d =>
      rw [ho] at h2
      obtain ⟨h2, h3⟩ := h2
      split at h3
      · rename_i hc
        obtain ⟨v, h4, h5⟩ := h3
        rw [ho] at hfit
        have hI' : Inv (pE o.guard d g v E) (upd s d (vE o.guard g v)) := by
          cases hgd : o.guard with
          | none => exact hI.put h2 v
          | some jw =>
            intro t p u he
            simp only [pE, elk] at he
            split at he
            · rename_i htd; cases he; subst htd; simp [upd, vE]
            · rename_i htd; simp only [upd]; rw [if_neg htd]; exact hI t p u he
        have ih := wE_nops hK r _ _ _ hI' hl.2 h5
        by_cases hg : g
        · rw [if_pos (k2.2 hg)]
          have hv : vE o.guard g v = v := by cases o.guard <;> simp [vE, sl_pos hg]
          rw [hv] at ih
          have ha := wEval_aop hI hg h4
          have : wdo P o (kont P N ops.toArray K r) s α ↔ kont P N ops.toArray K r (putA s o.dst v) α := by
            obtain ⟨dst, op, type, pos, after, guard⟩ := o
            simp only at hc ha ho
            have pl : (match aop P op s α with | some (v, α') => kont P N ops.toArray K r (putA s dst v) α' | none => NPure P ⟨dst, op, type, pos, after, guard⟩ s α (contK (kont P N ops.toArray K r) s dst)) ↔ kont P N ops.toArray K r (putA s dst v) α := by rw [ha]
            cases op with
            | call c =>
              obtain ⟨callee, args, ts⟩ := c
              cases callee with
              | builtin b => exact pl
              | value f => simp [calmO, quietA] at hc
              | invoke q n => simp [calmO, quietA] at hc
            | _ => exact pl
          rw [ho] at this
          exact wdo_nop (by rw [ho]; exact hfit) (this.2 ih)
        · rw [if_neg (fun hw => hg (k2.1 hw))]
          have hgd : o.guard ≠ none := fun hgd => by simp only [gdE, hgd, Option.some.injEq] at h1; subst h1; exact hg trivial
          have hv : vE o.guard g v = undef := by cases hx : o.guard with | none => exact absurd hx hgd | some jw => simp [vE, sl_neg hg]
          rw [hv] at ih
          exact ⟨hfit, ih⟩
      · have := rough (by rw [ho]; exact h3) (fun d' hd => by rw [ho] at hd; cases hd; exact h2)
        rw [ho] at this
        exact this
mutual
theorem wtr_ntr {N : Nat} {ops : List Oper} {Q : Exit → AS → AH → Prop} {K : AS → AH → Prop} (hK : ∀ s α, Q .normal s α → K s α) (ho : ops.all (fitO (ltB N)) = true) : ∀ (t : Tr) (s : AS) (α : AH), wtr P ops Q t s α → NTr P N ops.toArray K t s α
  | .done, s, α, h => by rw [wtr] at h; rw [NTr]; exact hK s α h
  | .take i t, s, α, h => by
    rw [wtr] at h; rw [NTr]
    unfold NTake
    rw [← nth_eq]
    cases hi : nth ops i with
    | none => rw [hi] at h; exact h.elim
    | some o =>
      rw [hi] at h
      obtain ⟨h1, h2, h3⟩ := wgd_sound h
      refine ⟨h1, fit_lt (nth_all ho hi), ?_⟩
      cases hw : wantedA ops.toArray o s with
      | true =>
        rw [if_pos rfl]
        have h2 := h2 hw
        split at h2
        · rename_i hop; rw [hop]; exact wtr_ntr hK ho t _ _ h2
        · exact h2.elim
      | false => rw [if_neg (by simp)]; exact wtr_ntr hK ho t _ _ (h3 hw)
  | .pick c, s, α, h => by rw [wtr] at h; rw [NTr]; exact wch_nch hK ho c s α h
theorem wch_nch {N : Nat} {ops : List Oper} {Q : Exit → AS → AH → Prop} {K : AS → AH → Prop} (hK : ∀ s α, Q .normal s α → K s α) (ho : ops.all (fitO (ltB N)) = true) : ∀ (c : Ch) (s : AS) (α : AH), wch P ops Q c s α → NCh P N ops.toArray K c s α
  | .nil, s, α, h => by rw [NCh]; trivial
  | .cons i t c, s, α, h => by
    rw [wch] at h; rw [NCh]
    refine ⟨?_, wch_nch hK ho c s α h.2⟩
    have h := h.1
    unfold NAt
    rw [← nth_eq]
    cases hi : nth ops i with
    | none => rw [hi] at h; exact h.elim
    | some o =>
      rw [hi] at h
      obtain ⟨h1, h2, h3⟩ := wgd_sound h
      have hd := fit_lt (nth_all ho hi)
      refine ⟨h1, ?_⟩
      cases hw : wantedA ops.toArray o s with
      | true => rw [if_pos rfl]; exact wdo_nop hd ((h2 hw).mono fun v α' hk => wtr_ntr hK ho t _ _ hk)
      | false => rw [if_neg (by simp)]; exact ⟨hd, wtr_ntr hK ho t _ _ (h3 hw)⟩
end
mutual
theorem zwtr_ntr {N : Nat} {ops : List Oper} {Q : Exit → AS → AH → Prop} {K : AS → AH → Prop} {Z : Nat → Prop} {α0 : AH} (hK : ∀ s α, Q .normal s α → K s α) (ho : ops.all (fitO (ltB N)) = true) : ∀ (t : ZT) (s : AS) (α : AH), zwtr P ops Q Z α0 t s α → NTrZ P N ops.toArray K Z α0 t s α
  | .done, s, α, h => by rw [zwtr] at h; rw [NTrZ]; exact hK s α h
  | .take i t, s, α, h => by
    rw [zwtr] at h; rw [NTrZ]
    unfold NTake
    rw [← nth_eq]
    cases hi : nth ops i with
    | none => rw [hi] at h; exact h.elim
    | some o =>
      rw [hi] at h
      obtain ⟨h1, h2, h3⟩ := wgd_sound h
      refine ⟨h1, fit_lt (nth_all ho hi), ?_⟩
      cases hw : wantedA ops.toArray o s with
      | true =>
        rw [if_pos rfl]
        have h2 := h2 hw
        split at h2
        · rename_i hop; rw [hop]; exact zwtr_ntr hK ho t _ _ h2
        · exact h2.elim
      | false => rw [if_neg (by simp)]; exact zwtr_ntr hK ho t _ _ (h3 hw)
  | .ld i t, s, α, h => by
    rw [zwtr] at h; rw [NTrZ]
    unfold NLd
    rw [← nth_eq]
    cases hi : nth ops i with
    | none => rw [hi] at h; exact h.elim
    | some o =>
      rw [hi] at h
      obtain ⟨h1, h2, h3⟩ := wgd_sound h
      cases hw : wantedA ops.toArray o s with
      | true =>
        have h2 := h2 hw
        split at h2
        · rename_i e x hop
          unfold zval at h2
          split at h2
          · rename_i id off hx
            obtain ⟨hz, v, hv, hk⟩ := h2
            exact ⟨v, ⟨h1, fit_lt (nth_all ho hi), .inl ⟨hw, e, x, id, off, hop, hx, hz, hv⟩⟩, zwtr_ntr hK ho t _ _ hk⟩
          · exact h2.elim
        · exact h2.elim
      | false => exact ⟨undef, ⟨h1, fit_lt (nth_all ho hi), .inr ⟨hw, rfl⟩⟩, zwtr_ntr hK ho t _ _ (h3 hw)⟩
  | .pick c, s, α, h => by rw [zwtr] at h; rw [NTrZ]; exact zwch_nch hK ho c s α h
theorem zwch_nch {N : Nat} {ops : List Oper} {Q : Exit → AS → AH → Prop} {K : AS → AH → Prop} {Z : Nat → Prop} {α0 : AH} (hK : ∀ s α, Q .normal s α → K s α) (ho : ops.all (fitO (ltB N)) = true) : ∀ (c : ZC) (s : AS) (α : AH), zwch P ops Q Z α0 c s α → NChZ P N ops.toArray K Z α0 c s α
  | .nil, s, α, h => by rw [NChZ]; trivial
  | .cons i k t c, s, α, h => by
    rw [zwch] at h; rw [NChZ]
    refine ⟨?_, zwch_nch hK ho c s α h.2⟩
    have h := h.1
    unfold NAt
    rw [← nth_eq]
    cases hi : nth ops i with
    | none => rw [hi] at h; exact h.elim
    | some o =>
      rw [hi] at h
      obtain ⟨h1, h2, h3⟩ := wgd_sound h
      have hd := fit_lt (nth_all ho hi)
      refine ⟨h1, ?_⟩
      cases hw : wantedA ops.toArray o s with
      | true => rw [if_pos rfl]; exact wdo_nop hd ((h2 hw).mono fun v α' hk => ⟨hk.1, zwtr_ntr hK ho t _ _ hk.2⟩)
      | false => rw [if_neg (by simp)]; exact ⟨hd, (h3 hw).1, zwtr_ntr hK ho t _ _ (h3 hw).2⟩
end
theorem wk_nw {N : Nat} (hm : P.follows .mixedOrders = true) : ∀ (c : Code) (Q Q' : Exit → AS → AH → Prop) (s : AS) (α : AH), (∀ e s α, Q e s α → Q' e s α) → fitC (ltB N) c = true → wk m P c Q s α → NW P N c Q' s α
  | .skip, Q, Q', s, α, hQ, hc, h => nw_skip (hQ _ _ _ h)
  | .exit i, Q, Q', s, α, hQ, hc, h => nw_exit (hQ _ _ _ h)
  | .ret, Q, Q', s, α, hQ, hc, h => nw_ret (hQ _ _ _ h)
  | .seq x y, Q, Q', s, α, hQ, hc, h => by
    simp only [fitC, Bool.and_eq_true] at hc
    simp only [wk] at h
    refine nw_seq (wk_nw hm x _ _ s α (fun e s α h' => ?_) hc.1 h)
    cases e <;> first | exact wk_nw hm y Q Q' s α hQ hc.2 h' | exact hQ _ _ _ h'
  | .cond c x y, Q, Q', s, α, hQ, hc, h => by
    simp only [fitC, Bool.and_eq_true] at hc
    simp only [wk] at h
    unfold wc at h
    split at h
    · rename_i b hb
      exact nw_cond hb (fun ht => wk_nw hm x Q Q' s α hQ hc.1 (h.y ht)) (fun hf => wk_nw hm y Q Q' s α hQ hc.2 (h.n (by simp [hf])))
    · exact h.elim
  | .block i c, Q, Q', s, α, hQ, hc, h => by
    simp only [fitC] at hc
    simp only [wk] at h
    refine nw_block (wk_nw hm c _ _ s α (fun e s α h' => ?_) hc h)
    cases e <;> simp only [nblock] at h' ⊢ <;> first | exact hQ _ _ _ h' | skip
    split
    · rename_i he; rw [if_pos he] at h'; exact hQ _ _ _ h'
    · rename_i he; rw [if_neg he] at h'; exact hQ _ _ _ h'
  | .region i ⟨ops⟩ d, Q, Q', s, α, hQ, hc, h => by
    simp only [fitC] at hc
    simp only [wk] at h
    cases d with
    | true =>
      rw [if_pos rfl] at h
      rcases h with ⟨t, h1, h2⟩ | ⟨Z, KS, t, h1, h2⟩
      · exact nw_draw t hm h1 fun K hK => wtr_ntr (fun s α hq => hK s α (hQ _ _ _ hq)) hc t s α h2
      · exact nw_drawz Z KS t hm h1 fun K hK => zwtr_ntr (fun s α hq => hK s α (hQ _ _ _ hq)) hc t s α h2
    | false =>
      rw [if_neg (by simp)] at h
      cases m with
      | true => rw [if_pos rfl] at h; exact nw_region fun K hK => wE_nops (fun s α hq => hK s α (hQ _ _ _ hq)) ops [] s α (fun _ _ _ he => by cases he) hc h
      | false => rw [if_neg (by simp)] at h; exact nw_region fun K hK => wops_nops (fun s α hq => hK s α (hQ _ _ _ hq)) ops s α hc h
  | .loop c, Q, Q', s, α, hQ, hc, h => by
    simp only [fitC] at hc
    simp only [wk] at h
    obtain ⟨I, n, h0, h⟩ := h
    refine nw_loop I n h0 fun n s α hI => wk_nw hm c _ _ s α (fun e s α h' => ?_) hc (h n s α hI)
    cases e <;> first | exact h' | exact hQ _ _ _ h'
  | .rangeFunc .., _, _, _, _, _, hc, _ | .scope .., _, _, _, _, _, hc, _ | .label .., _, _, _, _, _, hc, _ | .goto .., _, _, _, _, _, hc, _ | .refuse .., _, _, _, _, _, hc, _ => by simp [fitC] at hc

/-! ### trees told by places among those that are left -/
def plk : Nat → List Oper → Option (Oper × List Oper)
  | _, [] => none
  | 0, o :: r => some (o, r)
  | n + 1, a :: r => (plk n r).map fun x => (x.1, a :: x.2)
mutual
def rwk (P : Program) (ops : List Oper) (Q : Exit → AS → AH → Prop) : Tr → List Oper → AS → AH → Prop
  | .done, _, s, α => Q .normal s α
  | .take i t, l, s, α => match plk i l with
    | some (o, r) => wtk P ops (rwk P ops Q t r) s α (some o)
    | none => False
  | .pick c, l, s, α => rch P ops Q c l s α
def rch (P : Program) (ops : List Oper) (Q : Exit → AS → AH → Prop) : Ch → List Oper → AS → AH → Prop
  | .nil, _, _, _ => True
  | .cons i t c, l, s, α => (match plk i l with
    | some (o, r) => wat P ops (rwk P ops Q t r) s α (some o)
    | none => False) ∧ rch P ops Q c l s α
end
def tks : List Nat → Tr → Tr
  | [], t => t
  | k :: l, t => .take k (tks l t)
def plq : Nat → List Nat → Nat × List Nat
  | _, [] => (0, [])
  | 0, o :: r => (o, r)
  | n + 1, a :: r => ((plq n r).1, a :: (plq n r).2)
mutual
def absT : Tr → List Nat → Tr
  | .done, _ => .done
  | .take i t, l => .take (plq i l).1 (absT t (plq i l).2)
  | .pick c, l => .pick (absC c l)
def absC : Ch → List Nat → Ch
  | .nil, _ => .nil
  | .cons i t c, l => .cons (plq i l).1 (absT t (plq i l).2) (absC c l)
end
def Lie (ops : List Oper) (l : List Oper) (q : List Nat) : Prop := l.map some = q.map (nth ops)
theorem plk_plq {ops : List Oper} : ∀ {i : Nat} {l : List Oper} {q : List Nat} {o : Oper} {r : List Oper}, Lie ops l q → plk i l = some (o, r) → nth ops (plq i q).1 = some o ∧ Lie ops r (plq i q).2
  | _, [], _, _, _, _, h => by cases ‹Nat› <;> simp [plk] at h
  | _, _ :: _, [], _, _, h, _ => by simp [Lie] at h
  | 0, a :: l, b :: q, o, r, h, k => by
    simp [Lie] at h
    simp [plk] at k
    obtain ⟨rfl, rfl⟩ := k
    exact ⟨h.1.symm, h.2⟩
  | i + 1, a :: l, b :: q, o, r, h, k => by
    simp [Lie] at h
    simp [plk] at k
    obtain ⟨x, y, k1, k2, k3⟩ := k
    subst k2
    subst k3
    obtain ⟨e1, e2⟩ := plk_plq (show Lie ops l q from h.2) k1
    exact ⟨e1, by simp [Lie, plq, h.1]; exact e2⟩
theorem wtk.mono {ops : List Oper} {F F' : AS → AH → Prop} {s : AS} {α : AH} {o : Option Oper} (h : wtk P ops F s α o) (hF : ∀ s α, F s α → F' s α) : wtk P ops F' s α o := by
  cases o with
  | none => exact h.elim
  | some o =>
    refine wgd.mono h (fun h => ?_) (fun h => hF _ _ h)
    split at h
    · exact hF _ _ h
    · exact h.elim
theorem wat.mono {ops : List Oper} {F F' : AS → AH → Prop} {s : AS} {α : AH} {o : Option Oper} (h : wat P ops F s α o) (hF : ∀ s α, F s α → F' s α) : wat P ops F' s α o := by
  cases o with
  | none => exact h.elim
  | some o => exact wgd.mono h (fun h => h.mono fun v α' hk => hF _ _ hk) (fun h => hF _ _ h)
mutual
theorem rwk_wtr {ops : List Oper} {Q : Exit → AS → AH → Prop} : ∀ (t : Tr) (l : List Oper) (q : List Nat) (s : AS) (α : AH), Lie ops l q → rwk P ops Q t l s α → wtr P ops Q (absT t q) s α
  | .done, l, q, s, α, hl, h => by rw [rwk] at h; rw [absT, wtr]; exact h
  | .take i t, l, q, s, α, hl, h => by
    rw [rwk] at h; rw [absT, wtr]
    cases hp : plk i l with
    | none => rw [hp] at h; exact h.elim
    | some x =>
      obtain ⟨o, r⟩ := x
      rw [hp] at h
      obtain ⟨e1, e2⟩ := plk_plq hl hp
      rw [e1]
      exact wtk.mono h fun s α hh => rwk_wtr t r _ s α e2 hh
  | .pick c, l, q, s, α, hl, h => by rw [rwk] at h; rw [absT, wtr]; exact rch_wch c l q s α hl h
theorem rch_wch {ops : List Oper} {Q : Exit → AS → AH → Prop} : ∀ (c : Ch) (l : List Oper) (q : List Nat) (s : AS) (α : AH), Lie ops l q → rch P ops Q c l s α → wch P ops Q (absC c q) s α
  | .nil, l, q, s, α, hl, h => by rw [absC, wch]; trivial
  | .cons i t c, l, q, s, α, hl, h => by
    rw [rch] at h; rw [absC, wch]
    refine ⟨?_, rch_wch c l q s α hl h.2⟩
    have h := h.1
    cases hp : plk i l with
    | none => rw [hp] at h; exact h.elim
    | some x =>
      obtain ⟨o, r⟩ := x
      rw [hp] at h
      obtain ⟨e1, e2⟩ := plk_plq hl hp
      rw [e1]
      exact wat.mono h fun s α hh => rwk_wtr t r _ s α e2 hh
end
/-! ### the same, where what is looked at stays -/
mutual
def zwk (P : Program) (ops : List Oper) (Q : Exit → AS → AH → Prop) (Z : Nat → Prop) (α0 : AH) : ZT → List Oper → AS → AH → Prop
  | .done, _, s, α => Q .normal s α
  | .take i t, l, s, α => match plk i l with
    | some (o, r) => wtk P ops (zwk P ops Q Z α0 t r) s α (some o)
    | none => False
  | .ld i t, l, s, α => match plk i l with
    | some (o, r) => zlk P ops Z α0 (zwk P ops Q Z α0 t r) s α (some o)
    | none => False
  | .pick c, l, s, α => zch P ops Q Z α0 c l s α
def zch (P : Program) (ops : List Oper) (Q : Exit → AS → AH → Prop) (Z : Nat → Prop) (α0 : AH) : ZC → List Oper → AS → AH → Prop
  | .nil, _, _, _ => True
  | .cons i k t c, l, s, α => (match plk i l with
    | some (o, r) => wat P ops (fun s' α' => (k = true → Zm Z α0 α') ∧ zwk P ops Q Z α0 t r s' α') s α (some o)
    | none => False) ∧ zch P ops Q Z α0 c l s α
end
mutual
def absZ : ZT → List Nat → ZT
  | .done, _ => .done
  | .take i t, l => .take (plq i l).1 (absZ t (plq i l).2)
  | .ld i t, l => .ld (plq i l).1 (absZ t (plq i l).2)
  | .pick c, l => .pick (absZC c l)
def absZC : ZC → List Nat → ZC
  | .nil, _ => .nil
  | .cons i k t c, l => .cons (plq i l).1 k (absZ t (plq i l).2) (absZC c l)
end
theorem zlk.mono {ops : List Oper} {Z : Nat → Prop} {α0 : AH} {F F' : AS → AH → Prop} {s : AS} {α : AH} {o : Option Oper} (h : zlk P ops Z α0 F s α o) (hF : ∀ s α, F s α → F' s α) : zlk P ops Z α0 F' s α o := by
  cases o with
  | none => exact h.elim
  | some o =>
    refine wgd.mono h (fun h => ?_) (fun h => hF _ _ h)
    split at h
    · exact h.mono fun v h => hF _ _ h
    · exact h.elim
mutual
theorem zwk_zwtr {ops : List Oper} {Q : Exit → AS → AH → Prop} {Z : Nat → Prop} {α0 : AH} : ∀ (t : ZT) (l : List Oper) (q : List Nat) (s : AS) (α : AH), Lie ops l q → zwk P ops Q Z α0 t l s α → zwtr P ops Q Z α0 (absZ t q) s α
  | .done, l, q, s, α, hl, h => by rw [zwk] at h; rw [absZ, zwtr]; exact h
  | .take i t, l, q, s, α, hl, h => by
    rw [zwk] at h; rw [absZ, zwtr]
    cases hp : plk i l with
    | none => rw [hp] at h; exact h.elim
    | some x =>
      obtain ⟨o, r⟩ := x
      rw [hp] at h
      obtain ⟨e1, e2⟩ := plk_plq hl hp
      rw [e1]
      exact wtk.mono h fun s α hh => zwk_zwtr t r _ s α e2 hh
  | .ld i t, l, q, s, α, hl, h => by
    rw [zwk] at h; rw [absZ, zwtr]
    cases hp : plk i l with
    | none => rw [hp] at h; exact h.elim
    | some x =>
      obtain ⟨o, r⟩ := x
      rw [hp] at h
      obtain ⟨e1, e2⟩ := plk_plq hl hp
      rw [e1]
      exact zlk.mono h fun s α hh => zwk_zwtr t r _ s α e2 hh
  | .pick c, l, q, s, α, hl, h => by rw [zwk] at h; rw [absZ, zwtr]; exact zch_zwch c l q s α hl h
theorem zch_zwch {ops : List Oper} {Q : Exit → AS → AH → Prop} {Z : Nat → Prop} {α0 : AH} : ∀ (c : ZC) (l : List Oper) (q : List Nat) (s : AS) (α : AH), Lie ops l q → zch P ops Q Z α0 c l s α → zwch P ops Q Z α0 (absZC c q) s α
  | .nil, l, q, s, α, hl, h => by rw [absZC, zwch]; trivial
  | .cons i k t c, l, q, s, α, hl, h => by
    rw [zch] at h; rw [absZC, zwch]
    refine ⟨?_, zch_zwch c l q s α hl h.2⟩
    have h := h.1
    cases hp : plk i l with
    | none => rw [hp] at h; exact h.elim
    | some x =>
      obtain ⟨o, r⟩ := x
      rw [hp] at h
      obtain ⟨e1, e2⟩ := plk_plq hl hp
      rw [e1]
      exact wat.mono h fun s α hh => ⟨hh.1, zwk_zwtr t r _ s α e2 hh.2⟩
end
theorem lie0 : ∀ (l : List Oper), Lie l l (List.range l.length)
  | [] => rfl
  | o :: l => by
    have := lie0 l
    simp only [Lie] at this
    simp only [Lie, List.length_cons, List.range_succ_eq_map, List.map_cons, nth, List.map_map]
    rw [this]
    rfl
/-- A function, walked. -/
theorem ncw0 (m : Bool) (hm : P.follows .mixedOrders = true) {f : FuncId} {fn : Func} {c : Code} {rs : Array ResultVar} {args : List Value} {α : AH} {Q : Value → AH → Prop} (hf : P.funcs[f]? = some fn) (hb : fn.body = some c) (hr : fn.results = rs)
    (hk : (enters P f && decide (args.length ≤ fn.ntmps) && fitC (ltB fn.ntmps) c) = true) (h : wk m (nx P) c (bodyQ P rs.toList Q) (initS args) α) : NCalls P f args α Q := by
  simp only [Bool.and_eq_true, decide_eq_true_eq] at hk
  subst hr
  exact ncalls_of hk.1.1 hf hb hk.1.2 (wk_nw hm c _ _ _ α (fun _ _ _ h => h) hk.2 h)

theorem ncw (hm : P.follows .mixedOrders = true) {f : FuncId} {fn : Func} {c : Code} {rs : Array ResultVar} {args : List Value} {α : AH} {Q : Value → AH → Prop} (hf : P.funcs[f]? = some fn) (hb : fn.body = some c) (hr : fn.results = rs)
    (hk : (enters P f && decide (args.length ≤ fn.ntmps) && fitC (ltB fn.ntmps) c) = true) (h : wk false (nx P) c (bodyQ P rs.toList Q) (initS args) α) : NCalls P f args α Q := ncw0 false hm hf hb hr hk h
/-- The same, guards not known reckoned ahead. -/
theorem ncg (hm : P.follows .mixedOrders = true) {f : FuncId} {fn : Func} {c : Code} {rs : Array ResultVar} {args : List Value} {α : AH} {Q : Value → AH → Prop} (hf : P.funcs[f]? = some fn) (hb : fn.body = some c) (hr : fn.results = rs)
    (hk : (enters P f && decide (args.length ≤ fn.ntmps) && fitC (ltB fn.ntmps) c) = true) (h : wk true (nx P) c (bodyQ P rs.toList Q) (initS args) α) : NCalls P f args α Q := ncw0 true hm hf hb hr hk h
/-! ### loops -/
/-- what stands at the places that a loop writes is t's; all else is as ahead of it -/
def ovA (V : List Nat) (lo hi : Nat) : Nat → Bool := fun k => (decide (lo ≤ k) && decide (k ≤ hi)) || V.contains k
def over (V : List Nat) (lo hi : Nat) (t s : AS) : AS := fun k => if lo ≤ k ∧ k ≤ hi then t k else if k ∈ V then t k else s k
theorem over_eq {V : List Nat} {lo hi : Nat} {s t : AS} (h : frm (ovA V lo hi) s t) : over V lo hi t s = t := by
  funext k
  unfold over
  by_cases hk : lo ≤ k ∧ k ≤ hi
  · rw [if_pos hk]
  · rw [if_neg hk]
    by_cases hv : k ∈ V
    · rw [if_pos hv]
    · rw [if_neg hv]
      refine (h k ?_).symm
      simp only [ovA, Bool.or_eq_false_iff, Bool.and_eq_false_iff, decide_eq_false_iff_not]
      refine ⟨by omega, ?_⟩
      simpa using hv
theorem wloop {c : Code} {Q : Exit → AS → AH → Prop} {s : AS} {α : AH} (V : List Nat) (lo hi : Nat) (hA : fitC (ovA V lo hi) c = true) (n : Nat) (I : Nat → AS → AH → Prop) (h0 : I n s α)
    (h : ∀ n t α', I n t α' → wk m (nx P) c (nthen (agn I n) Q) (over V lo hi t s) α') : wk m P (.loop c) Q s α := by
  simp only [wk]
  refine ⟨fun n t α' => I n t α' ∧ frm (ovA V lo hi) s t, n, ⟨h0, fun _ _ => rfl⟩, fun n t α' ⟨h1, h2⟩ => ?_⟩
  have e := over_eq h2
  have h3 := h n t α' h1
  rw [e] at h3
  refine wk.fr (A := ovA V lo hi) (s0 := s) c _ _ t α' (fun e s' α' hf' h' => ?_) hA h2 h3
  cases e <;> first | (obtain ⟨n', k1, k2⟩ := h'; exact ⟨n', k1, k2, hf'⟩) | exact h'

/-- Two ways that meet: what holds there. -/
theorem wcut {c : Code} {K J : AS → AH → Prop} {Q : Exit → AS → AH → Prop} {s : AS} {α : AH} (h : wk m (nx P) c (nthen J Q) s α) (k : ∀ s α, J s α → K s α) (hc : fitC (fun _ => true) c = true) : wk m P c (nthen K Q) s α :=
  wk.fr (A := fun _ => true) (s0 := s) c _ _ s α (fun e s α _ h => by cases e <;> first | exact k s α h | exact h) hc (fun _ _ => rfl) h
/-- The same, where what is not written stays. -/
theorem wcutv {c : Code} {K : AS → AH → Prop} {Q : Exit → AS → AH → Prop} {s : AS} {α : AH} (V : List Nat) (lo hi : Nat) (hc : fitC (ovA V lo hi) c = true) (J : AS → AH → Prop) (h : wk m (nx P) c (nthen J Q) s α) (k : ∀ t α', J t α' → K (over V lo hi t s) α') : wk m P c (nthen K Q) s α := by
  refine wk.fr (A := ovA V lo hi) (s0 := s) c _ _ s α (fun e t α' hf h => ?_) hc (fun _ _ => rfl) h
  cases e <;> try exact h
  have e := over_eq hf
  have := k t α' h
  rw [e] at this
  exact this
theorem wdraw {i : Nat} {l : List Oper} {Q : Exit → AS → AH → Prop} {s : AS} {α : AH} (t : Tr) (hk : trCheck l.toArray (absT t (List.range l.length)) = true) (h : rwk (nx P) l Q t l s α) : wk m P (.region i l.toArray true) Q s α := by
  simp only [wk, if_pos rfl]
  exact .inl ⟨_, hk, rwk_wtr t l _ s α (lie0 l) h⟩
theorem wdrawz {i : Nat} {l : List Oper} {Q : Exit → AS → AH → Prop} {s : AS} {α : AH} (Z : Nat → Prop) (KS : List Nat) (t : ZT) (hk : zCheck l.toArray KS (absZ t (List.range l.length)) = true) (h : zwk (nx P) l Q Z α t l s α) : wk m P (.region i l.toArray true) Q s α := by
  simp only [wk, if_pos rfl]
  exact .inr ⟨Z, KS, _, hk, zwk_zwtr t l _ s α (lie0 l) h⟩
end
end Go.Lay

set_option linter.unusedVariables false
set_option linter.unusedSimpArgs false
namespace Go.Lay
open Go Go.RowKit
def bw (p A B : Prop) : Prop := both p A B
def wg (g : Option Prop) (A B : Prop) : Prop := match g with
  | some p => bw (nx p) A B
  | none => False
def wgo (r : Option (Value × AH)) (P : Program) (ops : List Oper) (Q : Exit → AS → AH → Prop) (rest : List Oper) (o : Oper) (s : AS) (α : AH) : Prop :=
  match r with
  | some (v, α') => wops P ops Q rest (putA s o.dst v) α'
  | none => NPure P o s α (contK (wops P ops Q rest) s o.dst)
def wcall (f : Value) (P : Program) (args : List Value) (α : AH) (K : Value → AH → Prop) : Prop := match f with
  | .func (.func g) first captured => NCalls P g (first.toList ++ args ++ captured.toList) α K
  | _ => False
theorem both_congr {p A A' B B' : Prop} (h1 : p → A = A') (h2 : ¬p → B = B') : both p A B = both p A' B' :=
  propext ⟨fun h => ⟨fun x => h1 x ▸ h.y x, fun x => h2 x ▸ h.n x⟩, fun h => ⟨fun x => (h1 x).symm ▸ h.y x, fun x => (h2 x).symm ▸ h.n x⟩⟩
theorem bw_congr {p p' A B : Prop} (h : p = p') : bw p A B = bw p' A B := by rw [h]
theorem wg_congr {g g' : Option Prop} {A B : Prop} (h : g = g') : wg g A B = wg g' A B := by rw [h]
theorem wc_congr {v v' : Value} {A B : Prop} (h : v = v') : wc v A B = wc v' A B := by rw [h]
theorem wgo_congr {r r' : Option (Value × AH)} {P : Program} {ops : List Oper} {Q : Exit → AS → AH → Prop} {rest : List Oper} {o : Oper} {s : AS} {α : AH} (h : r = r') : wgo r P ops Q rest o s α = wgo r' P ops Q rest o s α := by rw [h]
theorem wcall_congr {f f' : Value} {P : Program} {args args' : List Value} {α : AH} {K : Value → AH → Prop} (h : f = f') (h2 : args = args') : wcall f P args α K = wcall f' P args' α K := by rw [h, h2]
attribute [congr] both_congr bw_congr wg_congr wc_congr wgo_congr wcall_congr
section
variable {P : Program} {ops r : List Oper} {Q : Exit → AS → AH → Prop} {s : AS} {α α' : AH} {d : Option Nat} {ty : TypeId} {ps : String} {af : Array Edge} {A B p : Prop}
@[simp] theorem bw_true : bw True A B = A := propext ⟨fun h => h.y trivial, fun h => ⟨fun _ => h, fun x => absurd trivial x⟩⟩
@[simp] theorem bw_false : bw False A B = B := propext ⟨fun h => h.n id, fun h => ⟨False.elim, fun _ => h⟩⟩
@[simp] theorem bw_not : bw (¬p) A B = bw (nx p) B A := propext ⟨fun h => ⟨fun x => h.n (fun c => c x), fun x => h.y x⟩, fun h => ⟨fun x => h.n x, fun x => (Classical.em p).elim h.y fun c => absurd c x⟩⟩
@[simp low] theorem bw_both : bw p A B = both p A B := rfl
@[simp] theorem both_true : both True A B = A := bw_true
@[simp] theorem both_false : both False A B = B := bw_false
@[simp] theorem both_tt : both p True True = True := propext ⟨fun _ => trivial, fun _ => ⟨fun _ => trivial, fun _ => trivial⟩⟩
@[simp] theorem wg_some : wg (some p) A B = bw (nx p) A B := rfl
@[simp] theorem wc_bool (b : Bool) : wc (.bool b) A B = bw (nx (b = true)) A B := rfl
@[simp] theorem gvl_bool (b w : Bool) : gvl (.bool b) w = some (b = w) := rfl
@[simp] theorem gvl_undef (w : Bool) (a : Array Value) : gvl (.tuple a) w = some False := rfl
@[simp] theorem gts_zero (t : Nat) (op : Op) (g : Option (Nat × Bool)) : gts (⟨some t, op, ty, ps, af, g⟩ :: r) 0 s = s t := rfl
@[simp] theorem gts_succ (o : Oper) (n : Nat) : gts (o :: r) (n + 1) s = gts r n s := rfl
@[simp] theorem nth_zero (o : Oper) : nth (o :: r) 0 = some o := rfl
@[simp] theorem nth_succ (o : Oper) (n : Nat) : nth (o :: r) (n + 1) = nth r n := rfl
@[simp] theorem wgo_some (v : Value) (t : Nat) (op : Op) (g : Option (Nat × Bool)) : wgo (some (v, α')) P ops Q r ⟨some t, op, ty, ps, af, g⟩ s α = wops (nx P) ops Q r (upd s t v) α' := rfl
@[simp] theorem wgo_somen (v : Value) (op : Op) (g : Option (Nat × Bool)) : wgo (some (v, α')) P ops Q r ⟨none, op, ty, ps, af, g⟩ s α = wops (nx P) ops Q r s α' := rfl
@[simp] theorem wcall_f (g : FuncId) (K : Value → AH → Prop) (args : List Value) : wcall (.func (.func g) #[] #[]) P args α K = NCalls P g args α K := by simp [wcall]
@[simp] theorem ws_nil : wops P ops Q [] s α = Q .normal s α := rfl
@[simp] theorem ws_guard (t : Nat) (op : Op) (j : Nat) (w : Bool) : wops P ops Q (⟨some t, op, ty, ps, af, some (j, w)⟩ :: r) s α = wg (nx (gvl (gts ops j s) w)) (wops (nx P) ops Q (⟨some t, op, ty, ps, af, none⟩ :: r) s α) (wops (nx P) ops Q r (upd s t undef) α) := by
  simp only [wops, wgd]
  unfold nx
  cases gvl (gts ops j s) w with
  | none => simp [wg]
  | some p => simp only [Option.some.injEq]; exact propext ⟨fun ⟨_, h, k⟩ => by subst h; exact k, fun h => ⟨_, rfl, h⟩⟩
@[simp] theorem ws_guardn (op : Op) (j : Nat) (w : Bool) : wops P ops Q (⟨none, op, ty, ps, af, some (j, w)⟩ :: r) s α = wg (nx (gvl (gts ops j s) w)) (wops (nx P) ops Q (⟨none, op, ty, ps, af, none⟩ :: r) s α) (wops (nx P) ops Q r s α) := by
  simp only [wops, wgd]
  unfold nx
  cases gvl (gts ops j s) w with
  | none => simp [wg]
  | some p => simp only [Option.some.injEq]; exact propext ⟨fun ⟨_, h, k⟩ => by subst h; exact k, fun h => ⟨_, rfl, h⟩⟩
@[simp] theorem ws_move (t : Nat) (x : Operand) : wops P ops Q (⟨some t, .move x, ty, ps, af, none⟩ :: r) s α = wops (nx P) ops Q r (upd s t (ev s x)) α := rfl
@[simp] theorem ws_assign (t : Nat) (x : Operand) : wops P ops Q (⟨some t, .assign x, ty, ps, af, none⟩ :: r) s α = wops (nx P) ops Q r (upd s t (ev s x)) α := rfl
@[simp] theorem ws_pick (c a b : Operand) : wops P ops Q (⟨d, .pick c a b, ty, ps, af, none⟩ :: r) s α = wgo (nx (keep α (apick (ev s c) (ev s a) (ev s b)))) P ops Q r ⟨d, .pick c a b, ty, ps, af, none⟩ s α := rfl
@[simp] theorem ws_alloc (e : TypeId) : wops P ops Q (⟨d, .alloc e, ty, ps, af, none⟩ :: r) s α = wgo (nx (aalloc P e α)) P ops Q r ⟨d, .alloc e, ty, ps, af, none⟩ s α := rfl
@[simp] theorem ws_box (e : TypeId) (x : Operand) : wops P ops Q (⟨d, .box e x, ty, ps, af, none⟩ :: r) s α = wgo (nx (abox e (ev s x) α)) P ops Q r ⟨d, .box e x, ty, ps, af, none⟩ s α := rfl
@[simp] theorem ws_build (t : TypeId) (l : List (Nat × Operand)) : wops P ops Q (⟨d, .build t l.toArray, ty, ps, af, none⟩ :: r) s α = wgo (nx (keep α (abuild P t (l.map fun p => (p.1, ev s p.2))))) P ops Q r ⟨d, .build t l.toArray, ty, ps, af, none⟩ s α := rfl
@[simp] theorem ws_buildSlice (t : TypeId) (n : Nat) (l : List (Nat × Operand)) : wops P ops Q (⟨d, .buildSlice t n l.toArray, ty, ps, af, none⟩ :: r) s α = wgo (nx (abuildSlice P t n (l.map fun p => (p.1, ev s p.2)) α)) P ops Q r ⟨d, .buildSlice t n l.toArray, ty, ps, af, none⟩ s α := rfl
@[simp] theorem ws_load (t : TypeId) (x : Operand) : wops P ops Q (⟨d, .load t x, ty, ps, af, none⟩ :: r) s α = wgo (nx (keep α (aload P t (ev s x) α))) P ops Q r ⟨d, .load t x, ty, ps, af, none⟩ s α := rfl
@[simp] theorem ws_store (t : TypeId) (x y : Operand) : wops P ops Q (⟨d, .store t x y, ty, ps, af, none⟩ :: r) s α = wgo (nx ((astore P t (ev s x) (ev s y) α).map fun α' => (undef, α'))) P ops Q r ⟨d, .store t x y, ty, ps, af, none⟩ s α := rfl
@[simp] theorem ws_nilCheck (x : Operand) : wops P ops Q (⟨d, .nilCheck x, ty, ps, af, none⟩ :: r) s α = wgo (nx (keep α (anilCheck (ev s x)))) P ops Q r ⟨d, .nilCheck x, ty, ps, af, none⟩ s α := rfl
@[simp] theorem ws_binOp (op : BinOp) (t : TypeId) (x y : Operand) (yt : TypeId) : wops P ops Q (⟨d, .binOp op t x y yt, ty, ps, af, none⟩ :: r) s α = wgo (nx (keep α (abin P op t (cstA x y) (ev s x) (ev s y)))) P ops Q r ⟨d, .binOp op t x y yt, ty, ps, af, none⟩ s α := rfl
@[simp] theorem ws_unOp (op : UnOp) (t : TypeId) (x : Operand) : wops P ops Q (⟨d, .unOp op t x, ty, ps, af, none⟩ :: r) s α = wgo (nx (keep α (aun op (ev s x)))) P ops Q r ⟨d, .unOp op t x, ty, ps, af, none⟩ s α := rfl
@[simp] theorem ws_convert (t u : TypeId) (x : Operand) : wops P ops Q (⟨d, .convert t u x, ty, ps, af, none⟩ :: r) s α = wgo (nx (keep α (aconv P t u (ev s x)))) P ops Q r ⟨d, .convert t u x, ty, ps, af, none⟩ s α := rfl
@[simp] theorem ws_makeInterface (t : TypeId) (x : Operand) : wops P ops Q (⟨d, .makeInterface t x, ty, ps, af, none⟩ :: r) s α = wgo (nx (keep α (aiface P t (ev s x)))) P ops Q r ⟨d, .makeInterface t x, ty, ps, af, none⟩ s α := rfl
@[simp] theorem ws_makeFunc (fn : Fn) (f c : List Operand) : wops P ops Q (⟨d, .makeFunc fn f.toArray c.toArray, ty, ps, af, none⟩ :: r) s α = wgo (nx (some (.func fn (f.map (ev s)).toArray (c.map (ev s)).toArray, α))) P ops Q r ⟨d, .makeFunc fn f.toArray c.toArray, ty, ps, af, none⟩ s α := by
  simp [wops, wgd, wdo, wgo, aop, nx]
@[simp] theorem ws_makeSlice (t : TypeId) (l c : Operand) : wops P ops Q (⟨d, .makeSlice t l c, ty, ps, af, none⟩ :: r) s α = wgo (nx (amake P t (ev s l) (ev s c) α)) P ops Q r ⟨d, .makeSlice t l c, ty, ps, af, none⟩ s α := rfl
@[simp] theorem ws_slice (t : TypeId) (x : Operand) (lo hi mx : Option Operand) : wops P ops Q (⟨d, .slice t x lo hi mx, ty, ps, af, none⟩ :: r) s α = wgo (nx (keep α (aslice P t (ev s x) (lo.map (ev s)) (hi.map (ev s)) (mx.map (ev s)) α))) P ops Q r ⟨d, .slice t x lo hi mx, ty, ps, af, none⟩ s α := rfl
@[simp] theorem ws_fieldAddr (t : TypeId) (x : Operand) (f : Nat) : wops P ops Q (⟨d, .fieldAddr t x f, ty, ps, af, none⟩ :: r) s α = wgo (nx (keep α (afieldAddr P t (ev s x) f))) P ops Q r ⟨d, .fieldAddr t x f, ty, ps, af, none⟩ s α := rfl
@[simp] theorem ws_field (t : TypeId) (x : Operand) (f : Nat) : wops P ops Q (⟨d, .field t x f, ty, ps, af, none⟩ :: r) s α = wgo (nx (keep α (afield P t (ev s x) f))) P ops Q r ⟨d, .field t x f, ty, ps, af, none⟩ s α := rfl
@[simp] theorem ws_indexAddr (t : TypeId) (x i : Operand) : wops P ops Q (⟨d, .indexAddr t x i, ty, ps, af, none⟩ :: r) s α = wgo (nx (keep α (aindexAddr P t (ev s x) (ev s i)))) P ops Q r ⟨d, .indexAddr t x i, ty, ps, af, none⟩ s α := rfl
@[simp] theorem ws_index (t : TypeId) (x i : Operand) : wops P ops Q (⟨d, .index t x i, ty, ps, af, none⟩ :: r) s α = wgo (nx (keep α (aindex P t (ev s x) (ev s i)))) P ops Q r ⟨d, .index t x i, ty, ps, af, none⟩ s α := rfl
@[simp] theorem ws_extract (x : Operand) (i : Nat) : wops P ops Q (⟨d, .extract x i, ty, ps, af, none⟩ :: r) s α = wgo (nx (keep α (aextract (ev s x) i))) P ops Q r ⟨d, .extract x i, ty, ps, af, none⟩ s α := rfl
@[simp] theorem ws_builtin (b : Builtin) (l : List Operand) (ts : Array TypeId) : wops P ops Q (⟨d, .call ⟨.builtin b, l.toArray, ts⟩, ty, ps, af, none⟩ :: r) s α = wgo (nx (abuiltin P b ts (l.map (ev s)) α)) P ops Q r ⟨d, .call ⟨.builtin b, l.toArray, ts⟩, ty, ps, af, none⟩ s α := rfl
@[simp] theorem ws_call (f : Operand) (l : List Operand) (ts : Array TypeId) : wops P ops Q (⟨d, .call ⟨.value f, l.toArray, ts⟩, ty, ps, af, none⟩ :: r) s α = wcall (nx (ev s f)) P (l.map (ev s)) α (contK (wops (nx P) ops Q r) s d) := rfl
@[simp] theorem ws_invoke (x : Operand) (n : String) (l : List Operand) (ts : Array TypeId) : wops P ops Q (⟨d, .call ⟨.invoke x n, l.toArray, ts⟩, ty, ps, af, none⟩ :: r) s α = NInvoke P (ev s x) n (l.map (ev s)) α (contK (wops (nx P) ops Q r) s d) := rfl
variable {m : Bool}
@[simp] theorem wk_skip : wk m P .skip Q s α = Q .normal s α := rfl
@[simp] theorem wk_exit (i : Nat) : wk m P (.exit i) Q s α = Q (.exit i) s α := rfl
@[simp] theorem wk_ret : wk m P .ret Q s α = Q .ret s α := rfl
@[simp] theorem wk_seq (x y : Code) : wk m P (.seq x y) Q s α = wk m (nx P) x (nthen (wk m (nx P) y Q) Q) s α := by simp only [wk]; rfl
@[simp] theorem wk_cond (c : Operand) (x y : Code) : wk m P (.cond c x y) Q s α = wc (nx (ev s c)) (wk m (nx P) x Q s α) (wk m (nx P) y Q s α) := by simp only [wk]; rfl
@[simp] theorem wk_block (i : Nat) (c : Code) : wk m P (.block i c) Q s α = wk m (nx P) c (nblock i Q) s α := by simp only [wk]; rfl
@[simp] theorem wk_region (i : Nat) (l : List Oper) : wk false P (.region i l.toArray false) Q s α = wops (nx P) l Q l s α := by simp [wk, nx]
@[simp] theorem wk_regionE (i : Nat) (l : List Oper) : wk true P (.region i l.toArray false) Q s α = wE (nx P) l Q l [] s α := by simp [wk, nx]
@[simp] theorem over_eq' (V : List Nat) (lo hi : Nat) (t : AS) (k : Nat) : over V lo hi t s k = if lo ≤ k ∧ k ≤ hi then t k else if k ∈ V then t k else s k := rfl
end
/-! ### guards not known: what is guarded is reckoned ahead -/
def okp (x : Option (Prop × Value)) (g : Prop) : Prop := match x with
  | some (p, _) => g → p
  | none => True
def mxv (x : Option (Prop × Value)) (v : Value) : Value := match x with
  | some (_, u) => u
  | none => v
def gv2 (x : Option (Prop × Value)) (v : Value) (w : Bool) : Option Prop := match x with
  | some (p, .bool b) => some (p ∧ b = w)
  | some _ => none
  | none => gvl v w
def gvo (x : Option Nat) (E : Env) (s : AS) (w : Bool) : Option Prop := match x with
  | some t => gvE E s t w
  | none => none
def okc (v : Value) (f : Bool → Prop) : Prop := match v with
  | .bool b => f b
  | _ => False
noncomputable def wEd (g : Prop) (P : Program) (ops : List Oper) (Q : Exit → AS → AH → Prop) (o : Oper) (r : List Oper) (E : Env) (s : AS) (α : AH) : Prop := match o.dst with
  | none => bo g (wdo P o (wE P ops Q r E) s α) (wE P ops Q r E s α)
  | some d => elk E d = none ∧ if calmO o.op = true then ∃ v, wEval P E g o.op s α v ∧ wE P ops Q r (pE o.guard d g v E) (upd s d (vE o.guard g v)) α
    else bo g (wdo P o (wE P ops Q r E) s α) (wE P ops Q r E (upd s d undef) α)
noncomputable def wEg (x : Option Prop) (P : Program) (ops : List Oper) (Q : Exit → AS → AH → Prop) (o : Oper) (r : List Oper) (E : Env) (s : AS) (α : AH) : Prop := match x with
  | some g => wEd g P ops Q o r E s α
  | none => False
noncomputable def wEv (rv : Option (Value × AH)) (c : Prop) (g : Prop) (P : Program) (ops : List Oper) (Q : Exit → AS → AH → Prop) (d : Nat) (gd : Option (Nat × Bool)) (r : List Oper) (E : Env) (s : AS) (α : AH) : Prop :=
  c ∧ ∃ v, rv = some (v, α) ∧ wE P ops Q r (pE gd d g v E) (upd s d (vE gd g v)) α
def wEb (c g A B : Prop) : Prop := c ∧ bo g A B
noncomputable def wEa (rv : Option (Value × AH)) (P : Program) (ops : List Oper) (Q : Exit → AS → AH → Prop) (r : List Oper) (E : Env) (o : Oper) (s : AS) (α : AH) : Prop := match rv with
  | some (v, α') => wE P ops Q r E (putA s o.dst v) α'
  | none => NPure P o s α (contK (wE P ops Q r E) s o.dst)
section
variable {P : Program} {ops r : List Oper} {Q : Exit → AS → AH → Prop} {E : Env} {s : AS} {α : AH} {o : Oper} {g : Prop} {d : Nat} {gd : Option (Nat × Bool)}
theorem wE_congr {P' : Program} {l : List Oper} (h : P = P') : wE P ops Q l E s α = wE P' ops Q l E s α := by rw [h]
theorem wEg_congr {x x' : Option Prop} (h : x = x') : wEg x P ops Q o r E s α = wEg x' P ops Q o r E s α := by rw [h]
theorem wEd_congr {g' : Prop} (h : g = g') : wEd g P ops Q o r E s α = wEd g' P ops Q o r E s α := by rw [h]
theorem wEv_congr {rv rv' : Option (Value × AH)} {c c' : Prop} (h : rv = rv') (h2 : c = c') : wEv rv c g P ops Q d gd r E s α = wEv rv' c' g P ops Q d gd r E s α := by rw [h, h2]
theorem wEb_congr {c c' A B : Prop} (h : c = c') : wEb c g A B = wEb c' g A B := by rw [h]
theorem wEa_congr {rv rv' : Option (Value × AH)} (h : rv = rv') : wEa rv P ops Q r E o s α = wEa rv' P ops Q r E o s α := by rw [h]
theorem okp_congr {x x' : Option (Prop × Value)} (h : x = x') : okp x g = okp x' g := by rw [h]
theorem mxv_congr {x x' : Option (Prop × Value)} {v : Value} (h : x = x') : mxv x v = mxv x' v := by rw [h]
theorem gv2_congr {x x' : Option (Prop × Value)} {v : Value} {w : Bool} (h : x = x') : gv2 x v w = gv2 x' v w := by rw [h]
theorem gvo_congr {x x' : Option Nat} {w : Bool} (h : x = x') : gvo x E s w = gvo x' E s w := by rw [h]
theorem okc_congr {v v' : Value} {f : Bool → Prop} (h : v = v') : okc v f = okc v' f := by rw [h]
end
attribute [congr] wE_congr wEg_congr wEv_congr wEb_congr wEa_congr okp_congr mxv_congr gv2_congr gvo_congr okc_congr
section
variable {P : Program} {ops r : List Oper} {Q : Exit → AS → AH → Prop} {E : Env} {s : AS} {α α' : AH} {g A B p : Prop} {d : Nat} {gd : Option (Nat × Bool)} {ty : TypeId} {ps : String} {af : Array Edge} {v u : Value} {w : Bool}
@[simp] theorem elk_nil (t : Nat) : elk [] t = none := rfl
@[simp] theorem elk_cons (t : Nat) : elk ((d, p, v) :: E) t = if t = d then some (p, v) else elk E t := rfl
@[simp] theorem okp_none : okp none g = True := rfl
@[simp] theorem okp_some : okp (some (p, v)) g = (g → p) := rfl
@[simp] theorem okx_tmp (t : Nat) : okx E g (.tmp t) = okp (nx (elk E t)) g := by simp only [okx, nx]; cases elk E t <;> rfl
@[simp] theorem okx_const (v : Value) : okx E g (.const v) = True := rfl
@[simp] theorem okx_func (f : FuncId) : okx E g (.func f) = True := rfl
@[simp] theorem okx_global (f : Nat) : okx E g (.global f) = True := rfl
@[simp] theorem okl_nil : okl E g [] = True := rfl
@[simp] theorem okl_cons (x : Operand) (l : List Operand) : okl E g (x :: l) = (okx E g x ∧ okl E g l) := rfl
@[simp] theorem mix_eq (t : Nat) : mix E s t = mxv (nx (elk E t)) (s t) := by simp only [mix, nx]; cases elk E t <;> rfl
@[simp] theorem mxv_none : mxv none v = v := rfl
@[simp] theorem mxv_some : mxv (some (p, u)) v = u := rfl
@[simp] theorem sl_true : sl True v = v := if_pos trivial
@[simp] theorem sl_false : sl False v = undef := if_neg id
@[simp] theorem gv2_none : gv2 none v w = gvl v w := rfl
@[simp] theorem gv2_some (b : Bool) : gv2 (some (p, .bool b)) v w = some (p ∧ b = w) := rfl
theorem gvE_eq (t : Nat) : gvE E s t w = gv2 (nx (elk E t)) (s t) w := by
  simp only [gvE, nx]
  cases elk E t with
  | none => rfl
  | some x => obtain ⟨p, v⟩ := x; cases v <;> rfl
@[simp] theorem gvo_some (t : Nat) : gvo (some t) E s w = gv2 (nx (elk E t)) (s t) w := gvE_eq t
@[simp] theorem gtn_zero (t : Nat) (op : Op) (g : Option (Nat × Bool)) : gtn (⟨some t, op, ty, ps, af, g⟩ :: r) 0 = some t := rfl
@[simp] theorem gtn_succ (o : Oper) (n : Nat) : gtn (o :: r) (n + 1) = gtn r n := rfl
@[simp] theorem okc_bool (b : Bool) (f : Bool → Prop) : okc (.bool b) f = f b := rfl
@[simp] theorem wE_nil : wE P ops Q [] E s α = Q .normal s α := rfl
@[simp] theorem wE_plain (x : Option Nat) (op : Op) : wE P ops Q (⟨x, op, ty, ps, af, none⟩ :: r) E s α = wEd True P ops Q ⟨x, op, ty, ps, af, none⟩ r E s α := by
  simp only [wE, gdE, Option.some.injEq]
  exact propext ⟨fun ⟨_, h, k⟩ => by subst h; exact k, fun h => ⟨_, rfl, h⟩⟩
@[simp] theorem wE_guard (x : Option Nat) (op : Op) (j : Nat) : wE P ops Q (⟨x, op, ty, ps, af, some (j, w)⟩ :: r) E s α = wEg (nx (gvo (nx (gtn ops j)) E s w)) P ops Q ⟨x, op, ty, ps, af, some (j, w)⟩ r E s α := by
  simp only [wE, gdE, nx]
  cases gtn ops j with
  | none => simp [gvo, wEg]
  | some t =>
    simp only [gvo]
    cases gvE E s t w with
    | none => simp [wEg]
    | some g => simp only [Option.some.injEq]; exact propext ⟨fun ⟨_, h, k⟩ => by subst h; exact k, fun h => ⟨_, rfl, h⟩⟩
@[simp] theorem wEg_some (o : Oper) : wEg (some g) P ops Q o r E s α = wEd g P ops Q o r E s α := rfl
@[simp] theorem wEv_plain : wEv (some (v, α)) True g P ops Q d none r E s α = wE (nx P) ops Q r E (upd s d v) α := by simp [wEv, pE, vE, nx]
@[simp] theorem wEv_guard (jw : Nat × Bool) : wEv (some (v, α)) True g P ops Q d (some jw) r E s α = wE (nx P) ops Q r ((d, g, v) :: E) (upd s d (sl g v)) α := by simp [wEv, pE, vE, nx]
@[simp] theorem wEb_true : wEb True g A B = bw (nx g) A B := by simp [wEb, bo, bw, nx]
@[simp] theorem wEa_some (op : Op) : wEa (some (v, α')) P ops Q r E ⟨some d, op, ty, ps, af, gd⟩ s α = wE (nx P) ops Q r E (upd s d v) α' := rfl
@[simp] theorem wEa_somen (op : Op) : wEa (some (v, α')) P ops Q r E ⟨none, op, ty, ps, af, gd⟩ s α = wE (nx P) ops Q r E s α' := rfl
theorem wEd_calm {op : Op} (hc : calmO op = true) {rv : Option (Value × AH)} {okk : Prop} (h : ∀ v, wEval P E g op s α v = (okk ∧ rv = some (v, α))) (_ : True = True) : wEd g P ops Q ⟨some d, op, ty, ps, af, gd⟩ r E s α = wEv (nx rv) (nx (elk E d = none ∧ okk)) g P ops Q d gd r E s α := by
  simp only [wEd, hc, if_true, h, wEv, nx]
  exact propext ⟨fun ⟨h1, v, ⟨h2, h3⟩, h4⟩ => ⟨⟨h1, h2⟩, v, h3, h4⟩, fun ⟨⟨h1, h2⟩, v, h3, h4⟩ => ⟨h1, v, ⟨h2, h3⟩, h4⟩⟩
@[simp] theorem we_move (x : Operand) : wEd g P ops Q ⟨some d, .move x, ty, ps, af, gd⟩ r E s α = wEv (nx (some (ev (mix E s) x, α))) (nx (elk E d = none ∧ okl E g [x])) g P ops Q d gd r E s α := wEd_calm rfl (fun _ => by simp [wEval, aop, Op.operands]) rfl
@[simp] theorem we_assign (x : Operand) : wEd g P ops Q ⟨some d, .assign x, ty, ps, af, gd⟩ r E s α = wEv (nx (some (ev (mix E s) x, α))) (nx (elk E d = none ∧ okl E g [x])) g P ops Q d gd r E s α := wEd_calm rfl (fun _ => by simp [wEval, aop, Op.operands]) rfl
@[simp] theorem we_build (t : TypeId) (l : List (Nat × Operand)) : wEd g P ops Q ⟨some d, .build t l.toArray, ty, ps, af, gd⟩ r E s α = wEv (nx (keep α (abuild P t (l.map fun p => (p.1, ev (mix E s) p.2))))) (nx (elk E d = none ∧ okl E g (l.map (·.2)))) g P ops Q d gd r E s α := wEd_calm rfl (fun _ => by simp [wEval, aop, Op.operands]) rfl
@[simp] theorem we_nilCheck (x : Operand) : wEd g P ops Q ⟨some d, .nilCheck x, ty, ps, af, gd⟩ r E s α = wEv (nx (keep α (anilCheck (ev (mix E s) x)))) (nx (elk E d = none ∧ okl E g [x])) g P ops Q d gd r E s α := wEd_calm rfl (fun _ => by simp [wEval, aop, Op.operands]) rfl
@[simp] theorem we_binOp (op : BinOp) (t : TypeId) (x y : Operand) (u : TypeId) : wEd g P ops Q ⟨some d, .binOp op t x y u, ty, ps, af, gd⟩ r E s α = wEv (nx (keep α (abin P op t (cstA x y) (ev (mix E s) x) (ev (mix E s) y)))) (nx (elk E d = none ∧ okl E g [x, y])) g P ops Q d gd r E s α := wEd_calm rfl (fun _ => by simp [wEval, aop, Op.operands]) rfl
@[simp] theorem we_unOp (op : UnOp) (t : TypeId) (x : Operand) : wEd g P ops Q ⟨some d, .unOp op t x, ty, ps, af, gd⟩ r E s α = wEv (nx (keep α (aun op (ev (mix E s) x)))) (nx (elk E d = none ∧ okl E g [x])) g P ops Q d gd r E s α := wEd_calm rfl (fun _ => by simp [wEval, aop, Op.operands]) rfl
@[simp] theorem we_convert (t u : TypeId) (x : Operand) : wEd g P ops Q ⟨some d, .convert t u x, ty, ps, af, gd⟩ r E s α = wEv (nx (keep α (aconv P t u (ev (mix E s) x)))) (nx (elk E d = none ∧ okl E g [x])) g P ops Q d gd r E s α := wEd_calm rfl (fun _ => by simp [wEval, aop, Op.operands]) rfl
@[simp] theorem we_makeInterface (t : TypeId) (x : Operand) : wEd g P ops Q ⟨some d, .makeInterface t x, ty, ps, af, gd⟩ r E s α = wEv (nx (keep α (aiface P t (ev (mix E s) x)))) (nx (elk E d = none ∧ okl E g [x])) g P ops Q d gd r E s α := wEd_calm rfl (fun _ => by simp [wEval, aop, Op.operands]) rfl
@[simp] theorem we_fieldAddr (t : TypeId) (x : Operand) (f : Nat) : wEd g P ops Q ⟨some d, .fieldAddr t x f, ty, ps, af, gd⟩ r E s α = wEv (nx (keep α (afieldAddr P t (ev (mix E s) x) f))) (nx (elk E d = none ∧ okl E g [x])) g P ops Q d gd r E s α := wEd_calm rfl (fun _ => by simp [wEval, aop, Op.operands]) rfl
@[simp] theorem we_field (t : TypeId) (x : Operand) (f : Nat) : wEd g P ops Q ⟨some d, .field t x f, ty, ps, af, gd⟩ r E s α = wEv (nx (keep α (afield P t (ev (mix E s) x) f))) (nx (elk E d = none ∧ okl E g [x])) g P ops Q d gd r E s α := wEd_calm rfl (fun _ => by simp [wEval, aop, Op.operands]) rfl
@[simp] theorem we_indexAddr (t : TypeId) (x i : Operand) : wEd g P ops Q ⟨some d, .indexAddr t x i, ty, ps, af, gd⟩ r E s α = wEv (nx (keep α (aindexAddr P t (ev (mix E s) x) (ev (mix E s) i)))) (nx (elk E d = none ∧ okl E g [x, i])) g P ops Q d gd r E s α := wEd_calm rfl (fun _ => by simp [wEval, aop, Op.operands]) rfl
@[simp] theorem we_index (t : TypeId) (x i : Operand) : wEd g P ops Q ⟨some d, .index t x i, ty, ps, af, gd⟩ r E s α = wEv (nx (keep α (aindex P t (ev (mix E s) x) (ev (mix E s) i)))) (nx (elk E d = none ∧ okl E g [x, i])) g P ops Q d gd r E s α := wEd_calm rfl (fun _ => by simp [wEval, aop, Op.operands]) rfl
@[simp] theorem we_extract (x : Operand) (i : Nat) : wEd g P ops Q ⟨some d, .extract x i, ty, ps, af, gd⟩ r E s α = wEv (nx (keep α (aextract (ev (mix E s) x) i))) (nx (elk E d = none ∧ okl E g [x])) g P ops Q d gd r E s α := wEd_calm rfl (fun _ => by simp [wEval, aop, Op.operands]) rfl
@[simp] theorem we_load (t : TypeId) (x : Operand) : wEd g P ops Q ⟨some d, .load t x, ty, ps, af, gd⟩ r E s α = wEv (nx (keep α (aload P t (ev (mix E s) x) α))) (nx (elk E d = none ∧ okl E g [x])) g P ops Q d gd r E s α := wEd_calm rfl (fun _ => by simp [wEval, aop, Op.operands]) rfl
@[simp] theorem we_slice (t : TypeId) (x : Operand) (lo hi mx : Option Operand) : wEd g P ops Q ⟨some d, .slice t x lo hi mx, ty, ps, af, gd⟩ r E s α = wEv (nx (keep α (aslice P t (ev (mix E s) x) (lo.map (ev (mix E s))) (hi.map (ev (mix E s))) (mx.map (ev (mix E s))) α))) (nx (elk E d = none ∧ okl E g ([x] ++ lo.toList ++ hi.toList ++ mx.toList))) g P ops Q d gd r E s α := wEd_calm rfl (fun _ => by simp [wEval, aop, Op.operands]) rfl
@[simp] theorem we_len (l : List Operand) (ts : Array TypeId) : wEd g P ops Q ⟨some d, .call ⟨.builtin .len, l.toArray, ts⟩, ty, ps, af, gd⟩ r E s α = wEv (nx (abuiltin P .len ts (l.map (ev (mix E s))) α)) (nx (elk E d = none ∧ okl E g l)) g P ops Q d gd r E s α := wEd_calm rfl (fun _ => by simp [wEval, aop, Op.operands, Call.operands]) rfl
@[simp] theorem we_max (l : List Operand) (ts : Array TypeId) : wEd g P ops Q ⟨some d, .call ⟨.builtin .max, l.toArray, ts⟩, ty, ps, af, gd⟩ r E s α = wEv (nx (abuiltin P .max ts (l.map (ev (mix E s))) α)) (nx (elk E d = none ∧ okl E g l)) g P ops Q d gd r E s α := wEd_calm rfl (fun _ => by simp [wEval, aop, Op.operands, Call.operands]) rfl
@[simp] theorem we_min (l : List Operand) (ts : Array TypeId) : wEd g P ops Q ⟨some d, .call ⟨.builtin .min, l.toArray, ts⟩, ty, ps, af, gd⟩ r E s α = wEv (nx (abuiltin P .min ts (l.map (ev (mix E s))) α)) (nx (elk E d = none ∧ okl E g l)) g P ops Q d gd r E s α := wEd_calm rfl (fun _ => by simp [wEval, aop, Op.operands, Call.operands]) rfl
@[simp] theorem we_pick (c a b : Operand) : wEd g P ops Q ⟨some d, .pick c a b, ty, ps, af, gd⟩ r E s α = wEv (nx (keep α (apick (ev (mix E s) c) (ev (mix E s) a) (ev (mix E s) b)))) (nx (elk E d = none ∧ okx E g c ∧ okc (nx (ev (mix E s) c)) fun cv => okx E (g ∧ cv = true) a ∧ okx E (g ∧ cv = false) b)) g P ops Q d gd r E s α :=
  wEd_calm rfl (fun v => by
    simp only [wEval, nx]
    cases ev (mix E s) c <;> simp [okc, keep, apick]
    exact ⟨fun ⟨h1, h2, h3, h4⟩ => ⟨⟨h1, h2, h3⟩, h4⟩, fun ⟨⟨h1, h2, h3⟩, h4⟩ => ⟨h1, h2, h3, h4⟩⟩) rfl
@[simp] theorem we_alloc (e : TypeId) : wEd g P ops Q ⟨some d, .alloc e, ty, ps, af, gd⟩ r E s α = wEb (nx (elk E d = none)) g (wEa (nx (aalloc P e α)) P ops Q r E ⟨some d, .alloc e, ty, ps, af, gd⟩ s α) (wE (nx P) ops Q r E (upd s d undef) α) := rfl
@[simp] theorem we_box (e : TypeId) (x : Operand) : wEd g P ops Q ⟨some d, .box e x, ty, ps, af, gd⟩ r E s α = wEb (nx (elk E d = none)) g (wEa (nx (abox e (ev s x) α)) P ops Q r E ⟨some d, .box e x, ty, ps, af, gd⟩ s α) (wE (nx P) ops Q r E (upd s d undef) α) := rfl
@[simp] theorem we_buildSlice (t : TypeId) (n : Nat) (l : List (Nat × Operand)) : wEd g P ops Q ⟨some d, .buildSlice t n l.toArray, ty, ps, af, gd⟩ r E s α = wEb (nx (elk E d = none)) g (wEa (nx (abuildSlice P t n (l.map fun p => (p.1, ev s p.2)) α)) P ops Q r E ⟨some d, .buildSlice t n l.toArray, ty, ps, af, gd⟩ s α) (wE (nx P) ops Q r E (upd s d undef) α) := rfl
@[simp] theorem we_makeSlice (t : TypeId) (l c : Operand) : wEd g P ops Q ⟨some d, .makeSlice t l c, ty, ps, af, gd⟩ r E s α = wEb (nx (elk E d = none)) g (wEa (nx (amake P t (ev s l) (ev s c) α)) P ops Q r E ⟨some d, .makeSlice t l c, ty, ps, af, gd⟩ s α) (wE (nx P) ops Q r E (upd s d undef) α) := rfl
@[simp] theorem we_append (l : List Operand) (ts : Array TypeId) : wEd g P ops Q ⟨some d, .call ⟨.builtin .append, l.toArray, ts⟩, ty, ps, af, gd⟩ r E s α = wEb (nx (elk E d = none)) g (wEa (nx (abuiltin P .append ts (l.map (ev s)) α)) P ops Q r E ⟨some d, .call ⟨.builtin .append, l.toArray, ts⟩, ty, ps, af, gd⟩ s α) (wE (nx P) ops Q r E (upd s d undef) α) := rfl
@[simp] theorem we_copy (l : List Operand) (ts : Array TypeId) : wEd g P ops Q ⟨some d, .call ⟨.builtin .copy, l.toArray, ts⟩, ty, ps, af, gd⟩ r E s α = wEb (nx (elk E d = none)) g (wEa (nx (abuiltin P .copy ts (l.map (ev s)) α)) P ops Q r E ⟨some d, .call ⟨.builtin .copy, l.toArray, ts⟩, ty, ps, af, gd⟩ s α) (wE (nx P) ops Q r E (upd s d undef) α) := rfl
@[simp] theorem we_cap (l : List Operand) (ts : Array TypeId) : wEd g P ops Q ⟨some d, .call ⟨.builtin .cap, l.toArray, ts⟩, ty, ps, af, gd⟩ r E s α = wEb (nx (elk E d = none)) g (wEa (nx (abuiltin P .cap ts (l.map (ev s)) α)) P ops Q r E ⟨some d, .call ⟨.builtin .cap, l.toArray, ts⟩, ty, ps, af, gd⟩ s α) (wE (nx P) ops Q r E (upd s d undef) α) := rfl
@[simp] theorem we_store (t : TypeId) (x y : Operand) : wEd g P ops Q ⟨none, .store t x y, ty, ps, af, gd⟩ r E s α = wEb (nx True) g (wEa (nx ((astore P t (ev s x) (ev s y) α).map fun α' => (undef, α'))) P ops Q r E ⟨none, .store t x y, ty, ps, af, gd⟩ s α) (wE (nx P) ops Q r E s α) := by
  simp only [wEd, wEb, nx, true_and]; rfl
@[simp] theorem we_call (f : Operand) (l : List Operand) (ts : Array TypeId) : wEd g P ops Q ⟨some d, .call ⟨.value f, l.toArray, ts⟩, ty, ps, af, gd⟩ r E s α = wEb (nx (elk E d = none)) g (wcall (nx (ev s f)) P (l.map (ev s)) α (contK (wE P ops Q r E) s (some d))) (wE (nx P) ops Q r E (upd s d undef) α) := rfl
@[simp] theorem we_calln (f : Operand) (l : List Operand) (ts : Array TypeId) : wEd g P ops Q ⟨none, .call ⟨.value f, l.toArray, ts⟩, ty, ps, af, gd⟩ r E s α = wEb (nx True) g (wcall (nx (ev s f)) P (l.map (ev s)) α (contK (wE P ops Q r E) s none)) (wE (nx P) ops Q r E s α) := by
  simp only [wEd, wEb, nx, true_and]; rfl
@[simp] theorem we_invoke (x : Operand) (n : String) (l : List Operand) (ts : Array TypeId) : wEd g P ops Q ⟨some d, .call ⟨.invoke x n, l.toArray, ts⟩, ty, ps, af, gd⟩ r E s α = wEb (nx (elk E d = none)) g (NInvoke P (ev s x) n (l.map (ev s)) α (contK (wE P ops Q r E) s (some d))) (wE (nx P) ops Q r E (upd s d undef) α) := rfl
@[simp] theorem contK_wE (n : Nat) : contK (wE P ops Q r E) s (some n) v α = wE (nx P) ops Q r E (upd s n v) α := rfl
@[simp] theorem contK_wEn : contK (wE P ops Q r E) s none v α = wE (nx P) ops Q r E s α := rfl
end
/-! ### regions that draw -/
def plc (a : Oper) (x : Option (Oper × List Oper)) : Option (Oper × List Oper) := x.map fun x => (x.1, a :: x.2)
def wtn (o : Option (Oper × List Oper)) (P : Program) (ops : List Oper) (Q : Exit → AS → AH → Prop) (t : Tr) (s : AS) (α : AH) : Prop := match o with
  | some (o, r) => wtk P ops (rwk P ops Q t r) s α (some o)
  | none => False
def wan (o : Option (Oper × List Oper)) (P : Program) (ops : List Oper) (Q : Exit → AS → AH → Prop) (t : Tr) (s : AS) (α : AH) : Prop := match o with
  | some (o, r) => wat P ops (rwk P ops Q t r) s α (some o)
  | none => False
def wtg (r : Option (Value × AH)) (P : Program) (ops : List Oper) (Q : Exit → AS → AH → Prop) (t : Tr) (l : List Oper) (d : Option Nat) (s : AS) (α : AH) : Prop := match r with
  | some (v, _) => rwk P ops Q t l (putA s d v) α
  | none => False
def wag (r : Option (Value × AH)) (P : Program) (ops : List Oper) (Q : Exit → AS → AH → Prop) (t : Tr) (l : List Oper) (o : Oper) (s : AS) (α : AH) : Prop := match r with
  | some (v, α') => rwk P ops Q t l (putA s o.dst v) α'
  | none => NPure P o s α (contK (rwk P ops Q t l) s o.dst)
section
variable {P : Program} {ops l : List Oper} {Q : Exit → AS → AH → Prop} {t : Tr} {c : Ch} {s : AS} {α : AH}
theorem wtn_congr {o o' : Option (Oper × List Oper)} (h : o = o') : wtn o P ops Q t s α = wtn o' P ops Q t s α := by rw [h]
theorem wan_congr {o o' : Option (Oper × List Oper)} (h : o = o') : wan o P ops Q t s α = wan o' P ops Q t s α := by rw [h]
theorem wtg_congr {r r' : Option (Value × AH)} {d : Option Nat} (h : r = r') : wtg r P ops Q t l d s α = wtg r' P ops Q t l d s α := by rw [h]
theorem wag_congr {r r' : Option (Value × AH)} {o : Oper} (h : r = r') : wag r P ops Q t l o s α = wag r' P ops Q t l o s α := by rw [h]
theorem rwk_congr {P' : Program} (h : P = P') : rwk P ops Q t l s α = rwk P' ops Q t l s α := by rw [h]
theorem rch_congr {P' : Program} (h : P = P') : rch P ops Q c l s α = rch P' ops Q c l s α := by rw [h]
theorem wops_congr {P' : Program} (h : P = P') : wops P ops Q l s α = wops P' ops Q l s α := by rw [h]
theorem wk_congr {m : Bool} {P' : Program} {c : Code} (h : P = P') : wk m P c Q s α = wk m P' c Q s α := by rw [h]
theorem plc_congr {a : Oper} {x x' : Option (Oper × List Oper)} (h : x = x') : plc a x = plc a x' := by rw [h]
end
attribute [congr] wtn_congr wan_congr wtg_congr wag_congr rwk_congr rch_congr wops_congr wk_congr plc_congr
section
variable {P : Program} {ops l r : List Oper} {Q : Exit → AS → AH → Prop} {t : Tr} {s : AS} {α α' : AH} {d : Option Nat} {op : Op} {ty : TypeId} {ps : String} {af : Array Edge} {c : Ch}
@[simp] theorem plk_zero (o : Oper) : plk 0 (o :: r) = some (o, r) := rfl
@[simp] theorem plk_succ (n : Nat) (a : Oper) : plk (n + 1) (a :: r) = plc a (nx (plk n r)) := rfl
@[simp] theorem plc_some (a o : Oper) : plc a (some (o, r)) = some (o, a :: r) := rfl
@[simp] theorem rwk_tks (k : Nat) (x : List Nat) : rwk P ops Q (tks (k :: x) t) l s α = wtn (nx (plk k l)) P ops Q (tks x t) s α := by
  show rwk P ops Q (.take k (tks x t)) l s α = _
  rw [rwk]; unfold nx wtn; cases plk k l <;> rfl
@[simp] theorem rwk_tks0 : rwk P ops Q (tks [] t) l s α = rwk (nx P) ops Q t l s α := rfl
@[simp] theorem rwk_done : rwk P ops Q .done l s α = Q .normal s α := by rw [rwk]
@[simp] theorem rwk_take (i : Nat) : rwk P ops Q (.take i t) l s α = wtn (nx (plk i l)) P ops Q t s α := by rw [rwk]; unfold nx wtn; cases plk i l <;> rfl
@[simp] theorem rwk_pick : rwk P ops Q (.pick c) l s α = rch (nx P) ops Q c l s α := by rw [rwk]; rfl
@[simp] theorem rch_nil : rch P ops Q .nil l s α = True := by rw [rch]
@[simp] theorem rch_cons (i : Nat) : rch P ops Q (.cons i t c) l s α = (wan (nx (plk i l)) P ops Q t s α ∧ rch (nx P) ops Q c l s α) := by rw [rch]; unfold nx wan; cases plk i l <;> rfl
@[simp] theorem wtg_some (v : Value) (n : Nat) : wtg (some (v, α')) P ops Q t l (some n) s α = rwk (nx P) ops Q t l (upd s n v) α := rfl
@[simp] theorem wag_some (v : Value) (n : Nat) (g : Option (Nat × Bool)) : wag (some (v, α')) P ops Q t l ⟨some n, op, ty, ps, af, g⟩ s α = rwk (nx P) ops Q t l (upd s n v) α' := rfl
@[simp] theorem wag_somen (v : Value) (g : Option (Nat × Bool)) : wag (some (v, α')) P ops Q t l ⟨none, op, ty, ps, af, g⟩ s α = rwk (nx P) ops Q t l s α' := rfl
@[simp] theorem wtn_op : wtn (some (⟨d, op, ty, ps, af, none⟩, l)) P ops Q t s α = wtg (nx (aop P op s α)) P ops Q t l d s α := rfl
theorem wgd_eq {o : Oper} {j : Nat} {w : Bool} {A B : Prop} (h : o.guard = some (j, w)) : wgd ops o A B s = wg (nx (gvl (gts ops j s) w)) A B := by
  simp only [wgd, h]
  unfold nx
  cases gvl (gts ops j s) w with
  | none => simp [wg]
  | some p => simp only [Option.some.injEq]; exact propext ⟨fun ⟨_, h, k⟩ => by subst h; exact k, fun h => ⟨_, rfl, h⟩⟩
@[simp] theorem wtn_guard (n j : Nat) (w : Bool) : wtn (some (⟨some n, op, ty, ps, af, some (j, w)⟩, l)) P ops Q t s α = wg (nx (gvl (gts ops j s) w)) (wtn (nx (some (⟨some n, op, ty, ps, af, none⟩, l))) P ops Q t s α) (rwk (nx P) ops Q t l (upd s n undef) α) := by simp only [wtn, wtk]; rw [wgd_eq (j := j) (w := w) rfl]; rfl
@[simp] theorem wan_guard (n j : Nat) (w : Bool) : wan (some (⟨some n, op, ty, ps, af, some (j, w)⟩, l)) P ops Q t s α = wg (nx (gvl (gts ops j s) w)) (wan (nx (some (⟨some n, op, ty, ps, af, none⟩, l))) P ops Q t s α) (rwk (nx P) ops Q t l (upd s n undef) α) := by simp only [wan, wat]; rw [wgd_eq (j := j) (w := w) rfl]; rfl
@[simp] theorem wan_guardn (j : Nat) (w : Bool) : wan (some (⟨none, op, ty, ps, af, some (j, w)⟩, l)) P ops Q t s α = wg (nx (gvl (gts ops j s) w)) (wan (nx (some (⟨none, op, ty, ps, af, none⟩, l))) P ops Q t s α) (rwk (nx P) ops Q t l s α) := by simp only [wan, wat]; rw [wgd_eq (j := j) (w := w) rfl]; rfl
@[simp] theorem wan_call (f : Operand) (x : List Operand) (ts : Array TypeId) : wan (some (⟨d, .call ⟨.value f, x.toArray, ts⟩, ty, ps, af, none⟩, l)) P ops Q t s α = wcall (nx (ev s f)) P (x.map (ev s)) α (contK (rwk P ops Q t l) s d) := rfl
@[simp] theorem wan_invoke (x : Operand) (n : String) (y : List Operand) (ts : Array TypeId) : wan (some (⟨d, .call ⟨.invoke x n, y.toArray, ts⟩, ty, ps, af, none⟩, l)) P ops Q t s α = NInvoke P (ev s x) n (y.map (ev s)) α (contK (rwk P ops Q t l) s d) := rfl
@[simp] theorem wan_store (u : TypeId) (x y : Operand) : wan (some (⟨d, .store u x y, ty, ps, af, none⟩, l)) P ops Q t s α = wag (nx ((astore P u (ev s x) (ev s y) α).map fun α' => (undef, α'))) P ops Q t l ⟨d, .store u x y, ty, ps, af, none⟩ s α := rfl
@[simp] theorem wan_builtin (b : Builtin) (x : List Operand) (ts : Array TypeId) : wan (some (⟨d, .call ⟨.builtin b, x.toArray, ts⟩, ty, ps, af, none⟩, l)) P ops Q t s α = wag (nx (abuiltin P b ts (x.map (ev s)) α)) P ops Q t l ⟨d, .call ⟨.builtin b, x.toArray, ts⟩, ty, ps, af, none⟩ s α := rfl
@[simp] theorem wan_alloc (e : TypeId) : wan (some (⟨d, .alloc e, ty, ps, af, none⟩, l)) P ops Q t s α = wag (nx (aalloc P e α)) P ops Q t l ⟨d, .alloc e, ty, ps, af, none⟩ s α := rfl
@[simp] theorem wan_box (e : TypeId) (x : Operand) : wan (some (⟨d, .box e x, ty, ps, af, none⟩, l)) P ops Q t s α = wag (nx (abox e (ev s x) α)) P ops Q t l ⟨d, .box e x, ty, ps, af, none⟩ s α := rfl
@[simp] theorem wan_buildSlice (u : TypeId) (n : Nat) (x : List (Nat × Operand)) : wan (some (⟨d, .buildSlice u n x.toArray, ty, ps, af, none⟩, l)) P ops Q t s α = wag (nx (abuildSlice P u n (x.map fun p => (p.1, ev s p.2)) α)) P ops Q t l ⟨d, .buildSlice u n x.toArray, ty, ps, af, none⟩ s α := rfl
@[simp] theorem wan_makeSlice (u : TypeId) (x c : Operand) : wan (some (⟨d, .makeSlice u x c, ty, ps, af, none⟩, l)) P ops Q t s α = wag (nx (amake P u (ev s x) (ev s c) α)) P ops Q t l ⟨d, .makeSlice u x c, ty, ps, af, none⟩ s α := rfl
@[simp] theorem wan_move (x : Operand) : wan (some (⟨d, .move x, ty, ps, af, none⟩, l)) P ops Q t s α = wag (nx (aop P (.move x) s α)) P ops Q t l ⟨d, .move x, ty, ps, af, none⟩ s α := rfl
@[simp] theorem wan_assign (x : Operand) : wan (some (⟨d, .assign x, ty, ps, af, none⟩, l)) P ops Q t s α = wag (nx (aop P (.assign x) s α)) P ops Q t l ⟨d, .assign x, ty, ps, af, none⟩ s α := rfl
@[simp] theorem wan_pick (c a b : Operand) : wan (some (⟨d, .pick c a b, ty, ps, af, none⟩, l)) P ops Q t s α = wag (nx (aop P (.pick c a b) s α)) P ops Q t l ⟨d, .pick c a b, ty, ps, af, none⟩ s α := rfl
@[simp] theorem wan_build (u : TypeId) (x : Array (Nat × Operand)) : wan (some (⟨d, .build u x, ty, ps, af, none⟩, l)) P ops Q t s α = wag (nx (aop P (.build u x) s α)) P ops Q t l ⟨d, .build u x, ty, ps, af, none⟩ s α := rfl
@[simp] theorem wan_load (u : TypeId) (x : Operand) : wan (some (⟨d, .load u x, ty, ps, af, none⟩, l)) P ops Q t s α = wag (nx (aop P (.load u x) s α)) P ops Q t l ⟨d, .load u x, ty, ps, af, none⟩ s α := rfl
@[simp] theorem wan_nilCheck (x : Operand) : wan (some (⟨d, .nilCheck x, ty, ps, af, none⟩, l)) P ops Q t s α = wag (nx (aop P (.nilCheck x) s α)) P ops Q t l ⟨d, .nilCheck x, ty, ps, af, none⟩ s α := rfl
@[simp] theorem wan_binOp (o : BinOp) (u : TypeId) (x y : Operand) (w : TypeId) : wan (some (⟨d, .binOp o u x y w, ty, ps, af, none⟩, l)) P ops Q t s α = wag (nx (aop P (.binOp o u x y w) s α)) P ops Q t l ⟨d, .binOp o u x y w, ty, ps, af, none⟩ s α := rfl
@[simp] theorem wan_unOp (o : UnOp) (u : TypeId) (x : Operand) : wan (some (⟨d, .unOp o u x, ty, ps, af, none⟩, l)) P ops Q t s α = wag (nx (aop P (.unOp o u x) s α)) P ops Q t l ⟨d, .unOp o u x, ty, ps, af, none⟩ s α := rfl
@[simp] theorem wan_convert (u w : TypeId) (x : Operand) : wan (some (⟨d, .convert u w x, ty, ps, af, none⟩, l)) P ops Q t s α = wag (nx (aop P (.convert u w x) s α)) P ops Q t l ⟨d, .convert u w x, ty, ps, af, none⟩ s α := rfl
@[simp] theorem wan_slice (u : TypeId) (x : Operand) (lo hi mx : Option Operand) : wan (some (⟨d, .slice u x lo hi mx, ty, ps, af, none⟩, l)) P ops Q t s α = wag (nx (aop P (.slice u x lo hi mx) s α)) P ops Q t l ⟨d, .slice u x lo hi mx, ty, ps, af, none⟩ s α := rfl
@[simp] theorem wan_fieldAddr (u : TypeId) (x : Operand) (f : Nat) : wan (some (⟨d, .fieldAddr u x f, ty, ps, af, none⟩, l)) P ops Q t s α = wag (nx (aop P (.fieldAddr u x f) s α)) P ops Q t l ⟨d, .fieldAddr u x f, ty, ps, af, none⟩ s α := rfl
@[simp] theorem wan_field (u : TypeId) (x : Operand) (f : Nat) : wan (some (⟨d, .field u x f, ty, ps, af, none⟩, l)) P ops Q t s α = wag (nx (aop P (.field u x f) s α)) P ops Q t l ⟨d, .field u x f, ty, ps, af, none⟩ s α := rfl
@[simp] theorem wan_indexAddr (u : TypeId) (x i : Operand) : wan (some (⟨d, .indexAddr u x i, ty, ps, af, none⟩, l)) P ops Q t s α = wag (nx (aop P (.indexAddr u x i) s α)) P ops Q t l ⟨d, .indexAddr u x i, ty, ps, af, none⟩ s α := rfl
@[simp] theorem wan_index (u : TypeId) (x i : Operand) : wan (some (⟨d, .index u x i, ty, ps, af, none⟩, l)) P ops Q t s α = wag (nx (aop P (.index u x i) s α)) P ops Q t l ⟨d, .index u x i, ty, ps, af, none⟩ s α := rfl
@[simp] theorem wan_extract (x : Operand) (i : Nat) : wan (some (⟨d, .extract x i, ty, ps, af, none⟩, l)) P ops Q t s α = wag (nx (aop P (.extract x i) s α)) P ops Q t l ⟨d, .extract x i, ty, ps, af, none⟩ s α := rfl
@[simp] theorem wan_makeInterface (u : TypeId) (x : Operand) : wan (some (⟨d, .makeInterface u x, ty, ps, af, none⟩, l)) P ops Q t s α = wag (nx (aop P (.makeInterface u x) s α)) P ops Q t l ⟨d, .makeInterface u x, ty, ps, af, none⟩ s α := rfl
variable {v : Value}
@[simp] theorem contK_ops (n : Nat) : contK (wops P ops Q r) s (some n) v α = wops (nx P) ops Q r (upd s n v) α := rfl
@[simp] theorem contK_opsn : contK (wops P ops Q r) s none v α = wops (nx P) ops Q r s α := rfl
@[simp] theorem contK_rwk (n : Nat) : contK (rwk P ops Q t l) s (some n) v α = rwk (nx P) ops Q t l (upd s n v) α := rfl
@[simp] theorem contK_rwkn : contK (rwk P ops Q t l) s none v α = rwk (nx P) ops Q t l s α := rfl
end
/-! ### regions that draw, where what is looked at stays -/
def ztn (o : Option (Oper × List Oper)) (P : Program) (ops : List Oper) (Q : Exit → AS → AH → Prop) (Z : Nat → Prop) (α0 : AH) (t : ZT) (s : AS) (α : AH) : Prop := match o with
  | some (o, r) => wtk P ops (zwk P ops Q Z α0 t r) s α (some o)
  | none => False
def zln (o : Option (Oper × List Oper)) (P : Program) (ops : List Oper) (Q : Exit → AS → AH → Prop) (Z : Nat → Prop) (α0 : AH) (t : ZT) (s : AS) (α : AH) : Prop := match o with
  | some (o, r) => zlk P ops Z α0 (zwk P ops Q Z α0 t r) s α (some o)
  | none => False
def zkn (k : Bool) (P : Program) (ops : List Oper) (Q : Exit → AS → AH → Prop) (Z : Nat → Prop) (α0 : AH) (t : ZT) (l : List Oper) (s : AS) (α : AH) : Prop := (k = true → Zm Z α0 α) ∧ zwk P ops Q Z α0 t l s α
def zan (o : Option (Oper × List Oper)) (k : Bool) (P : Program) (ops : List Oper) (Q : Exit → AS → AH → Prop) (Z : Nat → Prop) (α0 : AH) (t : ZT) (s : AS) (α : AH) : Prop := match o with
  | some (o, r) => wat P ops (zkn k P ops Q Z α0 t r) s α (some o)
  | none => False
def ztg (r : Option (Value × AH)) (P : Program) (ops : List Oper) (Q : Exit → AS → AH → Prop) (Z : Nat → Prop) (α0 : AH) (t : ZT) (l : List Oper) (d : Option Nat) (s : AS) (α : AH) : Prop := match r with
  | some (v, _) => zwk P ops Q Z α0 t l (putA s d v) α
  | none => False
def zlp (e : TypeId) (p : Value) (P : Program) (ops : List Oper) (Q : Exit → AS → AH → Prop) (Z : Nat → Prop) (α0 : AH) (t : ZT) (l : List Oper) (d : Option Nat) (s : AS) (α : AH) : Prop := zval P Z α0 e p (fun v => zwk P ops Q Z α0 t l (putA s d v) α)
def zlv (r : Option Value) (P : Program) (ops : List Oper) (Q : Exit → AS → AH → Prop) (Z : Nat → Prop) (α0 : AH) (t : ZT) (l : List Oper) (d : Option Nat) (s : AS) (α : AH) : Prop := match r with
  | some v => zwk P ops Q Z α0 t l (putA s d v) α
  | none => False
def zag (r : Option (Value × AH)) (k : Bool) (P : Program) (ops : List Oper) (Q : Exit → AS → AH → Prop) (Z : Nat → Prop) (α0 : AH) (t : ZT) (l : List Oper) (o : Oper) (s : AS) (α : AH) : Prop := match r with
  | some (v, α') => zkn k P ops Q Z α0 t l (putA s o.dst v) α'
  | none => NPure P o s α (contK (zkn k P ops Q Z α0 t l) s o.dst)
section
variable {P : Program} {ops l : List Oper} {Q : Exit → AS → AH → Prop} {Z : Nat → Prop} {α0 : AH} {t : ZT} {c : ZC} {s : AS} {α : AH} {k : Bool}
theorem ztn_congr {o o' : Option (Oper × List Oper)} (h : o = o') : ztn o P ops Q Z α0 t s α = ztn o' P ops Q Z α0 t s α := by rw [h]
theorem zln_congr {o o' : Option (Oper × List Oper)} (h : o = o') : zln o P ops Q Z α0 t s α = zln o' P ops Q Z α0 t s α := by rw [h]
theorem zan_congr {o o' : Option (Oper × List Oper)} (h : o = o') : zan o k P ops Q Z α0 t s α = zan o' k P ops Q Z α0 t s α := by rw [h]
theorem ztg_congr {r r' : Option (Value × AH)} {d : Option Nat} (h : r = r') : ztg r P ops Q Z α0 t l d s α = ztg r' P ops Q Z α0 t l d s α := by rw [h]
theorem zlp_congr {e : TypeId} {p p' : Value} {d : Option Nat} (h : p = p') : zlp e p P ops Q Z α0 t l d s α = zlp e p' P ops Q Z α0 t l d s α := by rw [h]
theorem zlv_congr {r r' : Option Value} {d : Option Nat} (h : r = r') : zlv r P ops Q Z α0 t l d s α = zlv r' P ops Q Z α0 t l d s α := by rw [h]
theorem zag_congr {r r' : Option (Value × AH)} {o : Oper} (h : r = r') : zag r k P ops Q Z α0 t l o s α = zag r' k P ops Q Z α0 t l o s α := by rw [h]
theorem zwk_congr {P' : Program} (h : P = P') : zwk P ops Q Z α0 t l s α = zwk P' ops Q Z α0 t l s α := by rw [h]
theorem zkn_congr {P' : Program} (h : P = P') : zkn k P ops Q Z α0 t l s α = zkn k P' ops Q Z α0 t l s α := by rw [h]
theorem zch_congr {P' : Program} (h : P = P') : zch P ops Q Z α0 c l s α = zch P' ops Q Z α0 c l s α := by rw [h]
end
attribute [congr] ztn_congr zln_congr zan_congr ztg_congr zlp_congr zlv_congr zag_congr zwk_congr zch_congr
section
variable {P : Program} {ops l r : List Oper} {Q : Exit → AS → AH → Prop} {Z : Nat → Prop} {α0 : AH} {t : ZT} {s : AS} {α α' : AH} {d : Option Nat} {op : Op} {ty : TypeId} {ps : String} {af : Array Edge} {c : ZC} {k : Bool}
def zks : List (Nat × Bool) → ZT → ZT
  | [], t => t
  | (k, false) :: l, t => .take k (zks l t)
  | (k, true) :: l, t => .ld k (zks l t)
@[simp] theorem zwk_zksF (k : Nat) (x : List (Nat × Bool)) : zwk P ops Q Z α0 (zks ((k, false) :: x) t) l s α = ztn (nx (plk k l)) P ops Q Z α0 (zks x t) s α := by
  show zwk P ops Q Z α0 (.take k (zks x t)) l s α = _
  rw [zwk]; unfold nx ztn; cases plk k l <;> rfl
@[simp] theorem zwk_zksT (k : Nat) (x : List (Nat × Bool)) : zwk P ops Q Z α0 (zks ((k, true) :: x) t) l s α = zln (nx (plk k l)) P ops Q Z α0 (zks x t) s α := by
  show zwk P ops Q Z α0 (.ld k (zks x t)) l s α = _
  rw [zwk]; unfold nx zln; cases plk k l <;> rfl
@[simp] theorem zwk_zks0 : zwk P ops Q Z α0 (zks [] t) l s α = zwk (nx P) ops Q Z α0 t l s α := rfl
@[simp] theorem zwk_done : zwk P ops Q Z α0 .done l s α = Q .normal s α := by rw [zwk]
@[simp] theorem zwk_pick : zwk P ops Q Z α0 (.pick c) l s α = zch (nx P) ops Q Z α0 c l s α := by rw [zwk]; rfl
@[simp] theorem zch_nil : zch P ops Q Z α0 .nil l s α = True := by rw [zch]
@[simp] theorem zch_cons (i : Nat) : zch P ops Q Z α0 (.cons i k t c) l s α = (zan (nx (plk i l)) k P ops Q Z α0 t s α ∧ zch (nx P) ops Q Z α0 c l s α) := by rw [zch]; unfold nx zan; cases plk i l <;> rfl
@[simp] theorem zkn_t : zkn true P ops Q Z α0 t l s α = (Zm Z α0 α ∧ zwk (nx P) ops Q Z α0 t l s α) := by simp only [zkn, true_implies]; rfl
@[simp] theorem zkn_f : zkn false P ops Q Z α0 t l s α = zwk (nx P) ops Q Z α0 t l s α := by simp [zkn, nx]
@[simp] theorem ztg_some (v : Value) (n : Nat) : ztg (some (v, α')) P ops Q Z α0 t l (some n) s α = zwk (nx P) ops Q Z α0 t l (upd s n v) α := rfl
@[simp] theorem zlv_some (v : Value) (n : Nat) : zlv (some v) P ops Q Z α0 t l (some n) s α = zwk (nx P) ops Q Z α0 t l (upd s n v) α := rfl
@[simp] theorem zlp_ptr (e : TypeId) (id off : Nat) : zlp e (.pointer (some ⟨id, off, none⟩)) P ops Q Z α0 t l d s α = (Z id ∧ zlv (nx (aload P e (.pointer (some ⟨id, off, none⟩)) α0)) P ops Q Z α0 t l d s α) := by
  unfold zlp zval zlv nx
  refine propext ⟨fun ⟨h1, v, h2, h3⟩ => ⟨h1, by rw [h2]; exact h3⟩, fun ⟨h1, h2⟩ => ⟨h1, ?_⟩⟩
  split at h2
  · rename_i v hv; exact ⟨v, hv, h2⟩
  · exact h2.elim
@[simp] theorem zag_some (v : Value) (n : Nat) (g : Option (Nat × Bool)) : zag (some (v, α')) k P ops Q Z α0 t l ⟨some n, op, ty, ps, af, g⟩ s α = zkn k P ops Q Z α0 t l (upd s n v) α' := rfl
@[simp] theorem zag_somen (v : Value) (g : Option (Nat × Bool)) : zag (some (v, α')) k P ops Q Z α0 t l ⟨none, op, ty, ps, af, g⟩ s α = zkn k P ops Q Z α0 t l s α' := rfl
@[simp] theorem ztn_op : ztn (some (⟨d, op, ty, ps, af, none⟩, l)) P ops Q Z α0 t s α = ztg (nx (aop P op s α)) P ops Q Z α0 t l d s α := rfl
@[simp] theorem zln_op (e : TypeId) (x : Operand) : zln (some (⟨d, .load e x, ty, ps, af, none⟩, l)) P ops Q Z α0 t s α = zlp e (nx (ev s x)) P ops Q Z α0 t l d s α := rfl
@[simp] theorem ztn_guard (n j : Nat) (w : Bool) : ztn (some (⟨some n, op, ty, ps, af, some (j, w)⟩, l)) P ops Q Z α0 t s α = wg (nx (gvl (gts ops j s) w)) (ztn (nx (some (⟨some n, op, ty, ps, af, none⟩, l))) P ops Q Z α0 t s α) (zwk (nx P) ops Q Z α0 t l (upd s n undef) α) := by simp only [ztn, wtk]; rw [wgd_eq (j := j) (w := w) rfl]; rfl
@[simp] theorem zln_guard (n j : Nat) (w : Bool) : zln (some (⟨some n, op, ty, ps, af, some (j, w)⟩, l)) P ops Q Z α0 t s α = wg (nx (gvl (gts ops j s) w)) (zln (nx (some (⟨some n, op, ty, ps, af, none⟩, l))) P ops Q Z α0 t s α) (zwk (nx P) ops Q Z α0 t l (upd s n undef) α) := by simp only [zln, zlk]; rw [wgd_eq (j := j) (w := w) rfl]; rfl
@[simp] theorem zan_guard (n j : Nat) (w : Bool) : zan (some (⟨some n, op, ty, ps, af, some (j, w)⟩, l)) k P ops Q Z α0 t s α = wg (nx (gvl (gts ops j s) w)) (zan (nx (some (⟨some n, op, ty, ps, af, none⟩, l))) k P ops Q Z α0 t s α) (zkn k P ops Q Z α0 t l (upd s n undef) α) := by simp only [zan, wat]; rw [wgd_eq (j := j) (w := w) rfl]; rfl
@[simp] theorem zan_guardn (j : Nat) (w : Bool) : zan (some (⟨none, op, ty, ps, af, some (j, w)⟩, l)) k P ops Q Z α0 t s α = wg (nx (gvl (gts ops j s) w)) (zan (nx (some (⟨none, op, ty, ps, af, none⟩, l))) k P ops Q Z α0 t s α) (zkn k P ops Q Z α0 t l s α) := by simp only [zan, wat]; rw [wgd_eq (j := j) (w := w) rfl]; rfl
@[simp] theorem zan_call (f : Operand) (x : List Operand) (ts : Array TypeId) : zan (some (⟨d, .call ⟨.value f, x.toArray, ts⟩, ty, ps, af, none⟩, l)) k P ops Q Z α0 t s α = wcall (nx (ev s f)) P (x.map (ev s)) α (contK (zkn k P ops Q Z α0 t l) s d) := rfl
@[simp] theorem zan_invoke (x : Operand) (n : String) (y : List Operand) (ts : Array TypeId) : zan (some (⟨d, .call ⟨.invoke x n, y.toArray, ts⟩, ty, ps, af, none⟩, l)) k P ops Q Z α0 t s α = NInvoke P (ev s x) n (y.map (ev s)) α (contK (zkn k P ops Q Z α0 t l) s d) := rfl
@[simp] theorem zan_store (u : TypeId) (x y : Operand) : zan (some (⟨d, .store u x y, ty, ps, af, none⟩, l)) k P ops Q Z α0 t s α = zag (nx ((astore P u (ev s x) (ev s y) α).map fun α' => (undef, α'))) k P ops Q Z α0 t l ⟨d, .store u x y, ty, ps, af, none⟩ s α := rfl
@[simp] theorem zan_builtin (b : Builtin) (x : List Operand) (ts : Array TypeId) : zan (some (⟨d, .call ⟨.builtin b, x.toArray, ts⟩, ty, ps, af, none⟩, l)) k P ops Q Z α0 t s α = zag (nx (abuiltin P b ts (x.map (ev s)) α)) k P ops Q Z α0 t l ⟨d, .call ⟨.builtin b, x.toArray, ts⟩, ty, ps, af, none⟩ s α := rfl
@[simp] theorem zan_alloc (e : TypeId) : zan (some (⟨d, .alloc e, ty, ps, af, none⟩, l)) k P ops Q Z α0 t s α = zag (nx (aalloc P e α)) k P ops Q Z α0 t l ⟨d, .alloc e, ty, ps, af, none⟩ s α := rfl
@[simp] theorem zan_box (e : TypeId) (x : Operand) : zan (some (⟨d, .box e x, ty, ps, af, none⟩, l)) k P ops Q Z α0 t s α = zag (nx (abox e (ev s x) α)) k P ops Q Z α0 t l ⟨d, .box e x, ty, ps, af, none⟩ s α := rfl
@[simp] theorem zan_buildSlice (u : TypeId) (n : Nat) (x : List (Nat × Operand)) : zan (some (⟨d, .buildSlice u n x.toArray, ty, ps, af, none⟩, l)) k P ops Q Z α0 t s α = zag (nx (abuildSlice P u n (x.map fun p => (p.1, ev s p.2)) α)) k P ops Q Z α0 t l ⟨d, .buildSlice u n x.toArray, ty, ps, af, none⟩ s α := rfl
@[simp] theorem zan_makeSlice (u : TypeId) (x c : Operand) : zan (some (⟨d, .makeSlice u x c, ty, ps, af, none⟩, l)) k P ops Q Z α0 t s α = zag (nx (amake P u (ev s x) (ev s c) α)) k P ops Q Z α0 t l ⟨d, .makeSlice u x c, ty, ps, af, none⟩ s α := rfl
@[simp] theorem zan_move (x : Operand) : zan (some (⟨d, .move x, ty, ps, af, none⟩, l)) k P ops Q Z α0 t s α = zag (nx (aop P (.move x) s α)) k P ops Q Z α0 t l ⟨d, .move x, ty, ps, af, none⟩ s α := rfl
@[simp] theorem zan_assign (x : Operand) : zan (some (⟨d, .assign x, ty, ps, af, none⟩, l)) k P ops Q Z α0 t s α = zag (nx (aop P (.assign x) s α)) k P ops Q Z α0 t l ⟨d, .assign x, ty, ps, af, none⟩ s α := rfl
@[simp] theorem zan_pick (c a b : Operand) : zan (some (⟨d, .pick c a b, ty, ps, af, none⟩, l)) k P ops Q Z α0 t s α = zag (nx (aop P (.pick c a b) s α)) k P ops Q Z α0 t l ⟨d, .pick c a b, ty, ps, af, none⟩ s α := rfl
@[simp] theorem zan_build (u : TypeId) (x : Array (Nat × Operand)) : zan (some (⟨d, .build u x, ty, ps, af, none⟩, l)) k P ops Q Z α0 t s α = zag (nx (aop P (.build u x) s α)) k P ops Q Z α0 t l ⟨d, .build u x, ty, ps, af, none⟩ s α := rfl
@[simp] theorem zan_load (u : TypeId) (x : Operand) : zan (some (⟨d, .load u x, ty, ps, af, none⟩, l)) k P ops Q Z α0 t s α = zag (nx (aop P (.load u x) s α)) k P ops Q Z α0 t l ⟨d, .load u x, ty, ps, af, none⟩ s α := rfl
@[simp] theorem zan_nilCheck (x : Operand) : zan (some (⟨d, .nilCheck x, ty, ps, af, none⟩, l)) k P ops Q Z α0 t s α = zag (nx (aop P (.nilCheck x) s α)) k P ops Q Z α0 t l ⟨d, .nilCheck x, ty, ps, af, none⟩ s α := rfl
@[simp] theorem zan_binOp (o : BinOp) (u : TypeId) (x y : Operand) (w : TypeId) : zan (some (⟨d, .binOp o u x y w, ty, ps, af, none⟩, l)) k P ops Q Z α0 t s α = zag (nx (aop P (.binOp o u x y w) s α)) k P ops Q Z α0 t l ⟨d, .binOp o u x y w, ty, ps, af, none⟩ s α := rfl
@[simp] theorem zan_unOp (o : UnOp) (u : TypeId) (x : Operand) : zan (some (⟨d, .unOp o u x, ty, ps, af, none⟩, l)) k P ops Q Z α0 t s α = zag (nx (aop P (.unOp o u x) s α)) k P ops Q Z α0 t l ⟨d, .unOp o u x, ty, ps, af, none⟩ s α := rfl
@[simp] theorem zan_convert (u w : TypeId) (x : Operand) : zan (some (⟨d, .convert u w x, ty, ps, af, none⟩, l)) k P ops Q Z α0 t s α = zag (nx (aop P (.convert u w x) s α)) k P ops Q Z α0 t l ⟨d, .convert u w x, ty, ps, af, none⟩ s α := rfl
@[simp] theorem zan_slice (u : TypeId) (x : Operand) (lo hi mx : Option Operand) : zan (some (⟨d, .slice u x lo hi mx, ty, ps, af, none⟩, l)) k P ops Q Z α0 t s α = zag (nx (aop P (.slice u x lo hi mx) s α)) k P ops Q Z α0 t l ⟨d, .slice u x lo hi mx, ty, ps, af, none⟩ s α := rfl
@[simp] theorem zan_fieldAddr (u : TypeId) (x : Operand) (f : Nat) : zan (some (⟨d, .fieldAddr u x f, ty, ps, af, none⟩, l)) k P ops Q Z α0 t s α = zag (nx (aop P (.fieldAddr u x f) s α)) k P ops Q Z α0 t l ⟨d, .fieldAddr u x f, ty, ps, af, none⟩ s α := rfl
@[simp] theorem zan_field (u : TypeId) (x : Operand) (f : Nat) : zan (some (⟨d, .field u x f, ty, ps, af, none⟩, l)) k P ops Q Z α0 t s α = zag (nx (aop P (.field u x f) s α)) k P ops Q Z α0 t l ⟨d, .field u x f, ty, ps, af, none⟩ s α := rfl
@[simp] theorem zan_indexAddr (u : TypeId) (x i : Operand) : zan (some (⟨d, .indexAddr u x i, ty, ps, af, none⟩, l)) k P ops Q Z α0 t s α = zag (nx (aop P (.indexAddr u x i) s α)) k P ops Q Z α0 t l ⟨d, .indexAddr u x i, ty, ps, af, none⟩ s α := rfl
@[simp] theorem zan_index (u : TypeId) (x i : Operand) : zan (some (⟨d, .index u x i, ty, ps, af, none⟩, l)) k P ops Q Z α0 t s α = zag (nx (aop P (.index u x i) s α)) k P ops Q Z α0 t l ⟨d, .index u x i, ty, ps, af, none⟩ s α := rfl
@[simp] theorem zan_extract (x : Operand) (i : Nat) : zan (some (⟨d, .extract x i, ty, ps, af, none⟩, l)) k P ops Q Z α0 t s α = zag (nx (aop P (.extract x i) s α)) k P ops Q Z α0 t l ⟨d, .extract x i, ty, ps, af, none⟩ s α := rfl
@[simp] theorem zan_makeInterface (u : TypeId) (x : Operand) : zan (some (⟨d, .makeInterface u x, ty, ps, af, none⟩, l)) k P ops Q Z α0 t s α = zag (nx (aop P (.makeInterface u x) s α)) k P ops Q Z α0 t l ⟨d, .makeInterface u x, ty, ps, af, none⟩ s α := rfl
variable {v : Value}
@[simp] theorem contK_zkn (n : Nat) : contK (zkn k P ops Q Z α0 t l) s (some n) v α = zkn k P ops Q Z α0 t l (upd s n v) α := rfl
@[simp] theorem contK_zknn : contK (zkn k P ops Q Z α0 t l) s none v α = zkn k P ops Q Z α0 t l s α := rfl
end
attribute [simp] Fr.refl
theorem Zm.fr {N : Nat} {α0 α : AH} (h : Fr N α0 α) : Zm (fun i => i < N) α0 α := fun i hi => h.get i hi
theorem tk_next {τ : Type} {xs ys : List τ} {i : Nat} (h : xs.take i = ys.take i) (hx : i < xs.length) (hy : i < ys.length) (he : xs[i] = ys[i]) : xs.take (i + 1) = ys.take (i + 1) := by
  rw [List.take_succ_eq_append_getElem hx, List.take_succ_eq_append_getElem hy, h, he]
theorem tk_all {τ : Type} {xs ys : List τ} {i : Nat} (h : xs.take i = ys.take i) (hx : i = xs.length) (hy : xs.length = ys.length) : xs = ys := by
  rw [hx, List.take_length, hy, List.take_length] at h; exact h
theorem foldl_take {τ σ : Type} (f : σ → τ → σ) (a : σ) (l : List τ) {i : Nat} (h : i < l.length) : (l.take (i + 1)).foldl f a = f ((l.take i).foldl f a) l[i] := by
  rw [List.take_succ_eq_append_getElem h, List.foldl_append]; rfl
@[simp] theorem AH.alloc_set (α : AH) (b c : ABlk) : (α.alloc b).set α.n (some c) = α.alloc c := by
  simp only [AH.alloc, AH.set]
  congr 1
  funext i
  split <;> rfl
@[simp] theorem natI (i j : Nat) : ((i : Int) = (j : Int)) = (i = j) := propext Int.ofNat_inj
@[simp] theorem beqN (i j : Nat) : ((i : Int) == (j : Int)) = decide (i = j) := by rw [Bool.eq_iff_iff]; simp
@[simp] theorem both_same {p A : Prop} : both p A A = A := propext ⟨fun h => (Classical.em p).elim h.y h.n, fun h => ⟨fun _ => h, fun _ => h⟩⟩
@[simp] theorem Fr.alloc0 (α : AH) (b : ABlk) : Fr α.n α (α.alloc b) := (Fr.refl _ _).alloc (Nat.le_refl _) _
/-! ### a row that is handed on and grows: its block alone goes -/
def Bk (u : Value) (i : Nat) : Prop := ∃ o l c, u = .slice (some ⟨i, o, none⟩) l c
structure FrU (u : Value) (α α' : AH) : Prop where
  n : α.n ≤ α'.n
  get : ∀ i, i < α.n → ¬ Bk u i → α'.get i = α.get i
theorem FrU.refl (u : Value) (α : AH) : FrU u α α := ⟨Nat.le_refl _, fun _ _ _ => rfl⟩
theorem FrU.of {u : Value} {a b : AH} (h : Fr a.n a b) : FrU u a b := ⟨h.n, fun i hi _ => h.get i hi⟩
theorem FrU.fr {τ : Type} {N : Nat} {e : TypeId} {K : Kd τ} {α α' : AH} {u : Value} {xs : List τ} (h : FrU u α α') (ho : Ow N e K α u xs) (hn : N ≤ α.n) : Fr N α α' := ⟨h.n, fun i hi => h.get i (by omega) fun ⟨o, l, c, hb⟩ => by
  rcases ho with ⟨rfl, _⟩ | ⟨id, c', b, rfl, h2, _⟩
  · cases hb
  · cases hb; omega⟩
/-- one step more: what is handed on now is the row of the beginning, or one that was made since -/
theorem FrU.trans {τ : Type} {e : TypeId} {K : Kd τ} {α β γ : AH} {u w : Value} {xs : List τ} (h : FrU u α β) (hw : w = u ∨ Ow α.n e K β w xs) (k : FrU w β γ) : FrU u α γ := ⟨Nat.le_trans h.n k.n, fun i hi hu => by
  rw [k.get i (Nat.lt_of_lt_of_le hi h.n) (fun hb => ?_)]
  · exact h.get i hi hu
  · rcases hw with rfl | hw
    · exact hu hb
    · obtain ⟨o, l, c, rfl⟩ := hb
      rcases hw with ⟨h1, _⟩ | ⟨id, c', b, h1, h2, _⟩
      · cases h1
      · cases h1; omega⟩
theorem FrU.tr {α β γ : AH} {u : Value} (h : FrU u α β) (k : Fr β.n β γ) : FrU u α γ := ⟨Nat.le_trans h.n k.n, fun i hi hu => by rw [k.get i (Nat.lt_of_lt_of_le hi h.n)]; exact h.get i hi hu⟩
theorem FrU.rt {τ : Type} {N : Nat} {e : TypeId} {K : Kd τ} {α β γ : AH} {u : Value} (h : Fr α.n α β) (k : FrU u β γ) : FrU u α γ := ⟨Nat.le_trans h.n k.n, fun i hi hu => by rw [k.get i (Nat.lt_of_lt_of_le hi h.n) hu]; exact h.get i hi⟩
theorem aappend_fr {P : Program} {ts : Array TypeId} {s x v' : Value} {α α' : AH} (h : aappend P ts s x α = some (v', α')) : FrU s α α' ∧ ((v' = .slice none 0 0 ∧ α' = α) ∨ ∃ n, v' = .slice (some ⟨α.n, 0, none⟩) n 0) := by
  unfold aappend at h
  split at h
  · split at h
    · split at h
      · split at h
        · split at h
          · split at h
            · split at h
              · cases h; exact ⟨.refl _ _, .inl ⟨rfl, rfl⟩⟩
              · split at h
                · cases h; exact ⟨.of ((Fr.refl _ _).alloc (Nat.le_refl _) _), .inr ⟨_, rfl⟩⟩
                · cases h
            · split at h
              · split at h
                · cases h
                  exact ⟨⟨Nat.le_succ _, fun i hi hu => by rw [AH.alloc_get_ne _ _ (by simp; omega), AH.set_get_ne _ _ (fun he => hu (by subst he; exact ⟨_, _, _, rfl⟩))]⟩, .inr ⟨_, rfl⟩⟩
                · cases h
              · cases h
            · cases h
          · cases h
        · cases h
      · cases h
    · cases h
  · cases h
theorem Ow.from {τ : Type} {N M id n c : Nat} {e : TypeId} {K : Kd τ} {α : AH} {xs : List τ} (h : Ow N e K α (.slice (some ⟨id, 0, none⟩) n c) xs) (hM : M ≤ id) : Ow M e K α (.slice (some ⟨id, 0, none⟩) n c) xs := by
  rcases h with ⟨h, _⟩ | ⟨id', c', b, h1, h2, h3⟩
  · cases h
  · cases h1; exact .inr ⟨id, c, b, rfl, hM, h3⟩
/-- One more, and the row is new. -/
theorem Ow.push1 {τ : Type} {N : Nat} {e : TypeId} {K : Kd τ} {α : AH} {v : Value} {xs : List τ} (h : Ow N e K α v xs) {P : Program} {t : TypeId} {by_ : Nat} (T : ElT P t e K.sz by_) (hN : N ≤ α.n) {x : τ} {c : List Value} (hx : K.R α x c) (hk : K.apart e)
    (hl : (xs.length + 1) * by_ ≤ 140737488355328) (cap : Nat) : ∃ v' α', aappend P #[t, t] v (.slice (some ⟨α.n, 0, none⟩) 1 cap) (α.alloc ⟨c, e, true⟩) = some (v', α') ∧ Ow α.n e K α' v' (xs ++ [x]) ∧ FrU v α α' ∧ Kp e α α' := by
  obtain ⟨v', α', h1, h2, h3, h4⟩ := h.push T hN hx hk hl cap
  obtain ⟨k1, k2⟩ := aappend_fr h1
  refine ⟨v', α', h1, ?_, ⟨by have := k1.n; simp at this; omega, fun i hi hu => by rw [k1.get i (by simp; omega) hu, AH.alloc_get_ne _ _ (by omega)]⟩, h4⟩
  rcases k2 with ⟨rfl, _⟩ | ⟨n, rfl⟩
  · rcases h2 with ⟨_, h⟩ | ⟨id, c', b, h, _⟩
    · simp at h
    · cases h
  · exact h2.from (by simp)
theorem Ow.fru {τ σ : Type} {N M : Nat} {e e' : TypeId} {K : Kd τ} {K' : Kd σ} {α α' : AH} {v u : Value} {xs : List τ} {ys : List σ} (h : Ow N e K α v xs) (hf : FrU u α α') (hu : Ow M e' K' α u ys) (hne : e ≠ e') (hk : ∀ x c, K.R α x c → K.R α' x c) : Ow N e K α' v xs := by
  rcases h with h | ⟨id, c, b, h1, h2, h3, h4, h5, h6, h7, h8⟩
  · exact .inl h
  · refine .inr ⟨id, c, b, h1, h2, Nat.lt_of_lt_of_le h3 hf.n, ?_, h5, h6, h7, fun i hi => hk _ _ (h8 i hi)⟩
    rw [hf.get id h3 fun ⟨o, l, c, hb⟩ => ?_]
    · exact h4
    · rcases hu with ⟨rfl, _⟩ | ⟨id', c', b', rfl, k2, k3, k4, k5, _⟩
      · cases hb
      · cases hb
        rw [h4] at k4
        cases k4
        exact hne (h5.symm.trans k5)
/-- A loop whose ground is held closed. -/
theorem wlp {P : Program} {m : Bool} {c : Code} {Q : Exit → AS → AH → Prop} {s : AS} {α : AH} (V : List Nat) (lo hi : Nat) (hA : fitC (ovA V lo hi) c = true) (n : Nat) (I : Nat → AS → AH → Prop) (h0 : I n s α)
    (h : ∀ (J : Nat → AS → AH → Prop), (∀ n s α, I n s α → J n s α) → ∀ n t α', I n t α' → wk m (nx P) c (nthen (agn J n) Q) (over V lo hi t s) α') : wk m P (.loop c) Q s α :=
  wloop V lo hi hA n I h0 (h I fun _ _ _ h => h)
end Go.Lay

set_option linter.unusedVariables false
set_option linter.unusedSimpArgs false
namespace Go.Nod
open Go Go.RowKit Go.Lay
structure Rn where
  p : Int
  n : Int
deriving DecidableEq
structure Pc where
  e : Int
  q : Int
deriving DecidableEq
structure Cn where
  f : Int
  t : Int
  q : Bool
  cap : Int
  max : Int
  late : Int
deriving DecidableEq
structure Pt where
  name : ByteArray
  bud : Int
  per : Int
  sched : Bool
  stop : Bool
  procs : List Pc
  health : List Int
structure Cf where
  parts : List Pt
  chans : List Cn
  tabs : List (List Nd)
def Rn.enc (x : Rn) : List Value := [.int .i64 x.p, .int .i64 x.n]
def Pc.enc (x : Pc) : List Value := [.int .i64 x.e, .int .i64 x.q]
def Cn.enc (x : Cn) : List Value := [.int .i64 x.f, .int .i64 x.t, .bool x.q, .int .i64 x.cap, .int .u32 x.max, .int .i64 x.late]
def runK : Kd Rn := flatK 2 Rn.enc (fun _ => rfl) (fun x v hv => by simp [Rn.enc] at hv; rcases hv with rfl | rfl <;> rfl)
def procK : Kd Pc := flatK 2 Pc.enc (fun _ => rfl) (fun x v hv => by simp [Pc.enc] at hv; rcases hv with rfl | rfl <;> rfl)
def chanK : Kd Cn := flatK 6 Cn.enc (fun _ => rfl) (fun x v hv => by simp [Cn.enc] at hv; rcases hv with rfl | rfl | rfl | rfl | rfl | rfl <;> rfl)
end Go.Nod
namespace Go.Lay
open Go Go.RowKit
/-- What a slice says where it is read; one block for all. -/
theorem Sl.rd1 {τ : Type} {e : TypeId} {K : Kd τ} {α : AH} {v : Value} {xs : List τ} (h : Sl e K α v xs) {P : Program} {t : TypeId} (hu : P.underlying t = some (.slice e)) (hs : sizeA P e = some K.sz) :
    ∃ id off, (alen P #[t] v = some (.int .i64 (xs.length : Int))) ∧ (∀ (k : IntKind) (i : Nat), i < xs.length → aindexAddr P t v (.int k (i : Int)) = some (.pointer (some ⟨id, off + i * K.sz, none⟩))) ∧
      ∀ β, Fr α.n α β → ∃ b, (0 < xs.length → β.get id = some b) ∧ ∀ (i : Nat) (hi : i < xs.length), off + i * K.sz + K.sz ≤ b.cells.length ∧ K.R β xs[i] ((b.cells.drop (off + i * K.sz)).take K.sz) := by
  rcases h with ⟨rfl, rfl⟩ | ⟨id, off, c, b, rfl, h2, h3, h4, h5, h6⟩
  · exact ⟨0, 0, by simp [hu], fun k i hi => by simp at hi, fun β _ => ⟨⟨[], 0, true⟩, fun h => by simp at h, fun i hi => by simp at hi⟩⟩
  · refine ⟨id, off, by simp [hu], fun k i hi => by simp [hu, hi, hs], fun β hf => ⟨b, fun _ => by rw [hf.get id h2]; exact h3, fun i hi => ⟨?_, K.fr hf (h6 i hi)⟩⟩⟩
    have : (i + 1) * K.sz ≤ xs.length * K.sz := Nat.mul_le_mul_right _ hi
    rw [Nat.succ_mul] at this
    omega
/-- What a slice of flat things says where it is read. -/
theorem Sl.rdf {τ : Type} {e : TypeId} {sz : Nat} {enc : τ → List Value} {h1 h2} {α : AH} {v : Value} {xs : List τ} (h : Sl e (flatK sz enc h1 h2) α v xs) {P : Program} {t : TypeId} (hu : P.underlying t = some (.slice e)) (hs : sizeA P e = some sz) :
    ∃ id off, alen P #[t] v = some (.int .i64 (xs.length : Int)) ∧ (∀ (k : IntKind) (i : Nat), i < xs.length → aindexAddr P t v (.int k (i : Int)) = some (.pointer (some ⟨id, off + i * sz, none⟩))) ∧
      ∀ β, Fr α.n α β → ∃ b, (0 < xs.length → β.get id = some b) ∧ ∀ (i : Nat) (hi : i < xs.length), off + i * sz + sz ≤ b.cells.length ∧ (b.cells.drop (off + i * sz)).take sz = enc xs[i] ∧ ∀ j v, (enc xs[i])[j]? = some v → b.cells[off + i * sz + j]? = some v := by
  obtain ⟨id, off, a1, a2, a3⟩ := h.rd1 hu (show sizeA P e = some (flatK sz enc h1 h2).sz from hs)
  refine ⟨id, off, a1, a2, fun β hf => ?_⟩
  obtain ⟨b, b1, b2⟩ := a3 β hf
  refine ⟨b, b1, fun i hi => ?_⟩
  have b3 : (b.cells.drop (off + i * sz)).take sz = enc xs[i] := (b2 i hi).2
  exact ⟨(b2 i hi).1, b3, fun j v hv => by rw [take_get b3 (List.getElem?_eq_some_iff.1 hv).1]; exact hv⟩
theorem Sl.isSl {τ : Type} {e : TypeId} {K : Kd τ} {α : AH} {v : Value} {xs : List τ} (h : Sl e K α v xs) : ∃ a c, v = .slice a xs.length c := by
  rcases h with ⟨rfl, rfl⟩ | ⟨id, off, c, b, rfl, _⟩
  · exact ⟨_, _, rfl⟩
  · exact ⟨_, _, rfl⟩
end Go.Lay
namespace Go.Proofs.Ytggkeldedennfaa
open Go Go.RowKit Go.Lay Go.Nod
abbrev Runs (α : AH) (v : Value) (xs : List Rn) : Prop := Sl 102 runK α v xs
abbrev OwR (N : Nat) (α : AH) (v : Value) (xs : List Rn) : Prop := Ow N 102 runK α v xs
def prtR (α : AH) (x : Pt) (c : List Value) : Prop := ∃ vp h0 h1 h2 h3 h4, c = [.string x.name, .int .i64 x.bud, .int .i64 x.per, .bool x.sched, .bool x.stop, vp, .int .i64 h0, .int .i64 h1, .int .i64 h2, .int .i64 h3, .int .i64 h4] ∧
  x.health = [h0, h1, h2, h3, h4] ∧ Sl 70 procK α vp x.procs
def prtK : Kd Pt := ⟨11, prtR, fun ⟨_, _, _, _, _, _, h, _⟩ => by rw [h]; rfl, fun ⟨_, _, _, _, _, _, h, _, k⟩ v hv => by
    rw [h] at hv
    simp only [List.mem_cons, List.not_mem_nil, or_false] at hv
    rcases hv with rfl | rfl | rfl | rfl | rfl | rfl | rfl | rfl | rfl | rfl | rfl <;> first | rfl | exact k.isCell,
  fun hf ⟨vp, a, b, c, d, e, h, k, l⟩ => ⟨vp, a, b, c, d, e, h, k, l.fr hf⟩⟩
abbrev Parts (α : AH) (v : Value) (xs : List Pt) : Prop := Sl 68 prtK α v xs
abbrev Chans (α : AH) (v : Value) (xs : List Cn) : Prop := Sl 36 chanK α v xs
abbrev Tabs (α : AH) (v : Value) (xs : List (List Nd)) : Prop := Sl 49 (sliceK 55 nodeK) α v xs
/-- A configuration. -/
def IsCfg (α : AH) (v : Value) (c : Cf) : Prop := ∃ vp vc vt, v = .agg #[vp, vc, vt] ∧ Parts α vp c.parts ∧ Chans α vc c.chans ∧ Tabs α vt c.tabs
theorem IsCfg.fr {α β : AH} {v : Value} {c : Cf} (h : IsCfg α v c) (hf : Fr α.n α β) : IsCfg β v c := by
  obtain ⟨vp, vc, vt, h1, h2, h3, h4⟩ := h
  exact ⟨vp, vc, vt, h1, h2.fr hf, h3.fr hf, h4.fr hf⟩

theorem part_rd {α : AH} {v : Value} {xs : List Pt} (h : Parts α v xs) : ∃ id off, alen Try.prog #[22] v = some (.int .i64 (xs.length : Int)) ∧
      (∀ (k : IntKind) (i : Nat), i < xs.length → aindexAddr Try.prog 22 v (.int k (i : Int)) = some (.pointer (some ⟨id, off + i * 11, none⟩))) ∧
      ∀ β, Fr α.n α β → ∃ b, (0 < xs.length → β.get id = some b) ∧ ∀ (i : Nat) (hi : i < xs.length), ∃ vp h0 h1 h2 h3 h4, off + i * 11 + 11 ≤ b.cells.length ∧
        (b.cells.drop (off + i * 11)).take 11 = [.string xs[i].name, .int .i64 xs[i].bud, .int .i64 xs[i].per, .bool xs[i].sched, .bool xs[i].stop, vp, .int .i64 h0, .int .i64 h1, .int .i64 h2, .int .i64 h3, .int .i64 h4] ∧
        xs[i].health = [h0, h1, h2, h3, h4] ∧ Sl 70 procK β vp xs[i].procs ∧ b.cells[off + i * 11]? = some (.string xs[i].name) ∧ b.cells[off + i * 11 + 1]? = some (.int .i64 xs[i].bud) ∧ b.cells[off + i * 11 + 2]? = some (.int .i64 xs[i].per) ∧
        b.cells[off + i * 11 + 3]? = some (.bool xs[i].sched) ∧ b.cells[off + i * 11 + 4]? = some (.bool xs[i].stop) ∧ b.cells[off + i * 11 + 5]? = some vp := by
  obtain ⟨id, off, a1, a2, a3⟩ := h.rd1 (t := 22) Try.underlying22 sz68
  refine ⟨id, off, a1, a2, fun β hf => ?_⟩
  obtain ⟨b, b1, b2⟩ := a3 β hf
  refine ⟨b, b1, fun i hi => ?_⟩
  obtain ⟨b2, vp, h0, h1, h2, h3, h4, b3, b4, b5⟩ := b2 i hi
  have b3' : (b.cells.drop (off + i * 11)).take 11 = _ := b3
  have g : ∀ j (v : Value), j < 11 → [.string xs[i].name, .int .i64 xs[i].bud, .int .i64 xs[i].per, .bool xs[i].sched, .bool xs[i].stop, vp, .int .i64 h0, .int .i64 h1, .int .i64 h2, .int .i64 h3, .int .i64 h4][j]? = some v → b.cells[off + i * 11 + j]? = some v :=
    fun j v hj hv => by rw [take_get b3' hj]; exact hv
  exact ⟨vp, h0, h1, h2, h3, h4, b2, b3', b4, b5, g 0 _ (by omega) rfl, g 1 _ (by omega) rfl, g 2 _ (by omega) rfl, g 3 _ (by omega) rfl, g 4 _ (by omega) rfl, g 5 _ (by omega) rfl⟩
/-! ### square rows of rows of bools, of one's own -/
def upd2 (f : Nat → Nat → Bool) (a b : Nat) (x : Bool) : Nat → Nat → Bool := fun i j => if i = a ∧ j = b then x else f i j
def mat (n : Nat) (f : Nat → Nat → Bool) : List (List Bool) := (List.range n).map fun i => (List.range n).map (f i)
abbrev Mats (α : AH) (v : Value) (m : List (List Bool)) : Prop := Sl 40 (sliceK 4 boolK) α v m
/-- values as they are -/
def rawK : Kd Value := ⟨1, fun _ x c => c = [x] ∧ isCell x = true, fun h => by rw [h.1]; rfl, fun h v hv => by rw [h.1] at hv; simp at hv; rw [hv]; exact h.2, fun _ h => h⟩
theorem rawK_apart (e : TypeId) : rawK.apart e := fun _ _ _ _ _ _ _ _ h => h
structure Mx (N : Nat) (α : AH) (v : Value) (r n : Nat) (f : Nat → Nat → Bool) (vs : List Value) (ids cs : Nat → Nat) : Prop where
  o : Ow N 40 rawK α v vs
  len : vs.length = r
  row : ∀ i, i < r → vs[i]? = some (.slice (some ⟨ids i, 0, none⟩) n (cs i)) ∧ N ≤ ids i ∧ ids i < α.n ∧ ∃ b, α.get (ids i) = some ⟨b, 4, true⟩ ∧ n ≤ b.length ∧ ∀ j, j < n → b[j]? = some (.bool (f i j))
  inj : ∀ i j, i < r → j < r → ids i = ids j → i = j
def MX (N : Nat) (α : AH) (v : Value) (r n : Nat) (f : Nat → Nat → Bool) : Prop := ∃ vs ids cs, Mx N α v r n f vs ids cs
theorem Mx.fr {N : Nat} {α β : AH} {v : Value} {r n : Nat} {f : Nat → Nat → Bool} {vs : List Value} {ids cs : Nat → Nat} (h : Mx N α v r n f vs ids cs) (hf : Fr α.n α β) : Mx N β v r n f vs ids cs := by
  obtain ⟨h1, h2, h3, h4⟩ := h
  refine ⟨h1.fr hf, h2, fun i hi => ?_, h4⟩
  obtain ⟨a1, a2, a3, b, b1, b2, b3⟩ := h3 i hi
  exact ⟨a1, a2, Nat.lt_of_lt_of_le a3 hf.n, b, by rw [hf.get _ a3]; exact b1, b2, b3⟩
theorem MX.fr {N : Nat} {α β : AH} {v : Value} {r n : Nat} {f : Nat → Nat → Bool} (h : MX N α v r n f) (hf : Fr α.n α β) : MX N β v r n f := let ⟨vs, ids, cs, h⟩ := h; ⟨vs, ids, cs, h.fr hf⟩
theorem MX.mono {N N' : Nat} {α : AH} {v : Value} {r n : Nat} {f : Nat → Nat → Bool} (h : MX N α v r n f) (hn : N' ≤ N) : MX N' α v r n f := by
  obtain ⟨vs, ids, cs, h1, h2, h3, h4⟩ := h
  exact ⟨vs, ids, cs, h1.mono hn, h2, fun i hi => let ⟨a1, a2, a3⟩ := h3 i hi; ⟨a1, Nat.le_trans hn a2, a3⟩, h4⟩
theorem MX.isSl {N : Nat} {α : AH} {v : Value} {r n : Nat} {f : Nat → Nat → Bool} (h : MX N α v r n f) : ∃ a c, v = .slice a r c := by
  obtain ⟨vs, ids, cs, h1, rfl, h3, h4⟩ := h
  exact h1.sl.isSl
theorem MX.congr {N : Nat} {α : AH} {v : Value} {r n : Nat} {f g : Nat → Nat → Bool} (h : MX N α v r n f) (he : ∀ i j, i < r → j < n → f i j = g i j) : MX N α v r n g := by
  obtain ⟨vs, ids, cs, h1, h2, h3, h4⟩ := h
  refine ⟨vs, ids, cs, h1, h2, fun i hi => ?_, h4⟩
  obtain ⟨a1, a2, a3, b, b1, b2, b3⟩ := h3 i hi
  exact ⟨a1, a2, a3, b, b1, b2, fun j hj => by rw [b3 j hj, he i j hi hj]⟩
def rmat (r n : Nat) (f : Nat → Nat → Bool) : List (List Bool) := (List.range r).map fun i => (List.range n).map (f i)
theorem win1 {l : List Value} {i : Nat} {v : Value} (h : l[i]? = some v) : (l.drop i).take 1 = [v] := by
  apply List.ext_getElem?
  intro k
  cases k with
  | zero => simpa using h
  | succ k => simp; omega
theorem MX.sl {N : Nat} {α : AH} {v : Value} {r n : Nat} {f : Nat → Nat → Bool} (h : MX N α v r n f) : Mats α v (rmat r n f) := by
  obtain ⟨vs, ids, cs, h1, h2, h3, h4⟩ := h
  have hl : (rmat r n f).length = vs.length := by simp [rmat, h2]
  rcases h1.sl with ⟨rfl, rfl⟩ | ⟨id, off, c, b, rfl, k1, k2, k3, k4, k5⟩
  · simp at h2; subst h2; exact .inl ⟨rfl, rfl⟩
  · refine .inr ⟨id, off, c, b, by rw [hl], k1, k2, k3, by rw [hl]; exact k4, fun i hi => ?_⟩
    have hi' : i < vs.length := by omega
    obtain ⟨a1, a2, a3, rb, b1, b2, b3⟩ := h3 i (by omega)
    have e : (rmat r n f)[i] = (List.range n).map (f i) := by simp [rmat]
    rw [e]
    have k6 : (b.cells.drop (off + i * 1)).take 1 = [vs[i]] := (k5 i hi').1
    rw [List.getElem?_eq_getElem hi'] at a1
    injection a1 with a1
    refine ⟨_, k6, .inr ⟨ids i, 0, cs i, _, by simp [a1], a3, b1, rfl, by simpa [boolK] using b2, fun j hj => ?_⟩⟩
    simp at hj
    show ((rb.drop (0 + j * 1)).take 1) = _
    rw [Nat.mul_one, Nat.zero_add, win1 (b3 j hj)]
    simp
theorem MX.at {N : Nat} {α : AH} {v : Value} {r n : Nat} {f : Nat → Nat → Bool} (h : MX N α v r n f) {a b : Nat} (ha : a < r) (hb : b < n) : ∃ o c ro i ci rb, v = .slice (some ⟨o, 0, none⟩) r c ∧ α.get o = some ⟨ro, 40, true⟩ ∧ ro[a]? = some (.slice (some ⟨i, 0, none⟩) n ci) ∧
    α.get i = some ⟨rb, 4, true⟩ ∧ b + 1 ≤ rb.length ∧ rb[b]? = some (.bool (f a b)) ∧ N ≤ i ∧ i < α.n ∧ i ≠ o ∧ (∀ j, j < n → rb[j]? = some (.bool (f a j))) ∧ ∀ x, MX N (α.set i (some ⟨rb.set b (.bool x), 4, true⟩)) v r n (upd2 f a b x) := by
  obtain ⟨vs, ids, cs, h1, rfl, h3, h4⟩ := h
  obtain ⟨o, c, ro, rfl, g1, g2, g3, g4, g5⟩ := h1.mem (by omega)
  obtain ⟨a1, a2, a3, rb, b1, b2, b3⟩ := h3 a ha
  have hro : ro[a]? = some (.slice (some ⟨ids a, 0, none⟩) n (cs a)) := by
    have := (g5 a ha).1
    have e : ((ro.drop (a * 1)).take 1)[0]? = some vs[a] := by rw [show (ro.drop (a * 1)).take 1 = [vs[a]] from this]; rfl
    rw [List.getElem?_eq_getElem ha] at a1
    rw [a1] at e
    simpa using e
  have hne : ∀ i, i < vs.length → ids i ≠ o := fun i hi he => by
    obtain ⟨_, _, _, rc, d1, _⟩ := h3 i hi
    rw [he, g3] at d1
    injection d1 with d1
    injection d1 with _ d1
    exact absurd d1 (by decide)
  refine ⟨o, c, ro, ids a, cs a, rb, rfl, g3, hro, b1, by omega, b3 b hb, a2, a3, hne a ha, b3, fun x => ⟨vs, ids, cs, ?_, rfl, fun k hk => ?_, h4⟩⟩
  · exact .inr ⟨o, c, ⟨ro, 40, true⟩, rfl, g1, g2, by rw [AH.set_get_ne _ _ (Ne.symm (hne a ha))]; exact g3, rfl, rfl, g4, g5⟩
  · obtain ⟨c1, c2, c3, rc, d1, d2, d3⟩ := h3 k hk
    by_cases hka : k = a
    · subst hka
      refine ⟨c1, c2, c3, rb.set b (.bool x), AH.set_get _ _ _, by simpa using b2, fun j hj => ?_⟩
      rw [List.getElem?_set]
      by_cases hjb : b = j
      · subst hjb; rw [if_pos rfl, if_pos (by omega)]; simp [upd2]
      · rw [if_neg hjb, b3 j hj]; simp [upd2]; intro h; exact absurd h.symm hjb
    · refine ⟨c1, c2, c3, rc, by rw [AH.set_get_ne _ _ (fun he => hka (h4 k a hk ha he))]; exact d1, d2, fun j hj => ?_⟩
      rw [d3 j hj]; simp [upd2]; intro h; exact absurd h hka
/-- Two places, written one behind the other. -/
theorem MX.at2 {N : Nat} {α : AH} {v : Value} {r n : Nat} {f : Nat → Nat → Bool} (h : MX N α v r n f) {a b c d : Nat} (ha : a < r) (hb : b < n) (hc : c < r) (hd : d < n) : ∃ o cc ro i ci ri k ck rk, v = .slice (some ⟨o, 0, none⟩) r cc ∧
    α.get o = some ⟨ro, 40, true⟩ ∧ ro[a]? = some (.slice (some ⟨i, 0, none⟩) n ci) ∧ ro[c]? = some (.slice (some ⟨k, 0, none⟩) n ck) ∧ α.get i = some ⟨ri, 4, true⟩ ∧ α.get k = some ⟨rk, 4, true⟩ ∧ b + 1 ≤ ri.length ∧ d + 1 ≤ rk.length ∧
    (∀ j, j < n → ri[j]? = some (.bool (f a j))) ∧ (∀ j, j < n → rk[j]? = some (.bool (f c j))) ∧ N ≤ i ∧ N ≤ k ∧ (∀ x, MX N (α.set i (some ⟨ri.set b (.bool x), 4, true⟩)) v r n (upd2 f a b x)) ∧
    (∀ x, ∃ rk', (α.set i (some ⟨ri.set b (.bool x), 4, true⟩)).get k = some ⟨rk', 4, true⟩ ∧ d + 1 ≤ rk'.length ∧ rk'[d]? = some (.bool (upd2 f a b x c d)) ∧ ∀ y, MX N ((α.set i (some ⟨ri.set b (.bool x), 4, true⟩)).set k (some ⟨rk'.set d (.bool y), 4, true⟩)) v r n (upd2 (upd2 f a b x) c d y)) ∧
    (∀ y, ∃ ri', (α.set k (some ⟨rk.set d (.bool y), 4, true⟩)).get i = some ⟨ri', 4, true⟩ ∧ b + 1 ≤ ri'.length ∧ ∀ x, MX N ((α.set k (some ⟨rk.set d (.bool y), 4, true⟩)).set i (some ⟨ri'.set b (.bool x), 4, true⟩)) v r n (upd2 (upd2 f c d y) a b x)) := by
  obtain ⟨o, cc, ro, i, ci, ri, rfl, h2, h3, h4, h5, -, h7, h8, h9, h6, h10⟩ := h.at ha hb
  obtain ⟨o', cc', ro', k, ck, rk, e1, k2, k3, k4, k5, -, k7, k8, k9, k6, k10⟩ := h.at hc hd
  cases e1
  rw [h2] at k2
  cases k2
  refine ⟨o, cc, ro, i, ci, ri, k, ck, rk, rfl, h2, h3, k3, h4, k4, h5, k5, h6, k6, h7, k7, h10, fun x => ?_, fun y => ?_⟩
  · obtain ⟨o', cc', ro', k', ck', rk', e1, l2, l3, l4, l5, l6, l7, l8, l9, -, l10⟩ := (h10 x).at hc hd
    cases e1
    rw [AH.set_get_ne _ _ (Ne.symm h9), h2] at l2
    cases l2
    rw [k3] at l3
    cases l3
    exact ⟨rk', l4, l5, l6, l10⟩
  · obtain ⟨o', cc', ro', k', ck', rk', e1, l2, l3, l4, l5, l6, l7, l8, l9, -, l10⟩ := (k10 y).at ha hb
    cases e1
    rw [AH.set_get_ne _ _ (Ne.symm k9), h2] at l2
    cases l2
    rw [h3] at l3
    cases l3
    exact ⟨rk', l4, l5, l10⟩
/-- One more row: in a block i of one's own that no other row lies in. -/
theorem Mx.push {N : Nat} {α : AH} {v : Value} {r n : Nat} {f : Nat → Nat → Bool} {vs : List Value} {ids cs : Nat → Nat} (h0 : Mx N α v r n f vs ids cs) {i ci : Nat} {rb : List Value} {g : Nat → Bool} (hN : N ≤ i) (hi : i < α.n) (hb : α.get i = some ⟨rb, 4, true⟩) (hl : n ≤ rb.length) (hg : ∀ j, j < n → rb[j]? = some (.bool (g j)))
    (hr : r < 1000000000) (cap : Nat) (hne : ∀ k, k < r → ids k ≠ i) :
    ∃ v' α', aappend Try.prog #[38, 38] v (.slice (some ⟨α.n, 0, none⟩) 1 cap) (α.alloc ⟨[.slice (some ⟨i, 0, none⟩) n ci], 40, true⟩) = some (v', α') ∧ MX N α' v' (r + 1) n (fun a b => if a = r then g b else f a b) ∧ Fr N α α' := by
  obtain ⟨h1, rfl, h3, h4⟩ := h0
  obtain ⟨v', α', p1, p2, p3, p4⟩ := h1.push el38 (t := 38) (by omega) (x := .slice (some ⟨i, 0, none⟩) n ci) (c := [.slice (some ⟨i, 0, none⟩) n ci]) ⟨rfl, rfl⟩ (rawK_apart _) (by omega) cap
  have kp : ∀ k b, α.get k = some ⟨b, 4, true⟩ → k < α.n → α'.get k = some ⟨b, 4, true⟩ := fun k b hk hkn => p4 k _ hk (show (4 : Nat) ≠ 40 by decide) hkn
  refine ⟨v', α', p1, ⟨vs ++ [.slice (some ⟨i, 0, none⟩) n ci], fun k => if k = vs.length then i else ids k, fun k => if k = vs.length then ci else cs k, p2, by simp, fun k hk => ?_, fun k l hk hl' he => ?_⟩, p3⟩
  · by_cases hkr : k = vs.length
    · subst hkr
      simp only [if_pos]
      exact ⟨by simp, hN, Nat.lt_of_lt_of_le hi p3.n, rb, kp _ _ hb hi, hl, hg⟩
    · simp only [if_neg hkr]
      obtain ⟨a1, a2, a3, b, b1, b2, b3⟩ := h3 k (by omega)
      exact ⟨by rw [List.getElem?_append_left (by omega)]; exact a1, a2, Nat.lt_of_lt_of_le a3 p3.n, b, kp _ _ b1 a3, b2, b3⟩
  · by_cases hk1 : k = vs.length <;> by_cases hk2 : l = vs.length <;> simp only [hk1, hk2, if_true, if_false] at he
    · omega
    · exact absurd he.symm (hne l (by omega))
    · exact absurd he (hne k (by omega))
    · exact h4 k l (by omega) (by omega) he
end Go.Proofs.Ytggkeldedennfaa

set_option linter.unusedVariables false
set_option linter.unusedSimpArgs false
namespace Go.Proofs.Ytggkeldedennfaa
open Go Go.RowKit Go.Lay Go.Nod

theorem mkB (n : Nat) (hn : n ≤ 1000000000) (α : AH) : amake Try.prog 40 (.int .i64 n) (.int .i64 n) α = some (.slice (some ⟨α.n, 0, none⟩) n 0, α.alloc ⟨List.replicate n (.bool false), 4, true⟩) := by
  simp [amake]
  omega

set_option maxRecDepth 100000 in
theorem is_ok (p : Int) (vp vc vt : Value) (c : Cf) (α : AH) (h : IsCfg α (.agg #[vp, vc, vt]) c) :
    NCalls Try.prog 44 [.agg #[vp, vc, vt], .int .i64 p] α (fun v α' => v = .bool (decide (0 ≤ p ∧ p < c.parts.length)) ∧ Fr α.n α α') := by
  obtain ⟨_, _, _, he, h1, h2, h3⟩ := h
  cases he
  obtain ⟨_, _, hl, _⟩ := h1.rd (t := 22) Try.underlying22 sz68
  refine ncw mixd Try.func44 rfl Try.results44 (by kernel_rfl) ?_
  simp +contextual [h1.isCell, h2.isCell, h3.isCell, hl]
set_option maxRecDepth 100000 in
theorem in_ok (p : Int) (vp vc vt : Value) (c : Cf) (α : AH) (h : IsCfg α (.agg #[vp, vc, vt]) c) :
    NCalls Try.prog 60 [.agg #[vp, vc, vt], .int .i64 p] α (fun v α' => v = .bool (decide (0 ≤ p ∧ p < c.parts.length)) ∧ Fr α.n α α') := by
  obtain ⟨_, _, _, he, h1, h2, h3⟩ := h
  cases he
  obtain ⟨_, _, hl, _⟩ := h1.rd (t := 22) Try.underlying22 sz68
  refine ncw mixd Try.func60 rfl Try.results60 (by kernel_rfl) ?_
  simp +contextual [h1.isCell, h2.isCell, h3.isCell, hl]

set_option maxRecDepth 100000 in
theorem square_ok (n : Nat) (hn : n ≤ 1000) (α : AH) :
    NCalls Try.prog 43 [.int .i64 n] α (fun v α' => MX α.n α' v n n (fun _ _ => false) ∧ Fr α.n α α') := by
  refine ncw mixd Try.func43 rfl Try.results43 (by kernel_rfl) ?_
  simp +contextual
  refine wlp [3] 5 12 (by kernel_rfl) n (fun k t α' => ∃ i, k = n - i ∧ i ≤ n ∧ t 5 = .int .i64 i ∧ MX α.n α' (t 3) i n (fun _ _ => false) ∧ Fr α.n α α')
    ⟨0, by omega, by omega, by simp, ⟨[], fun _ => 0, fun _ => 0, .nil, rfl, fun i hi => by omega, fun i j hi => by omega⟩, .refl _ _⟩ ?_
  rintro J hJ k t α' ⟨i, rfl, hi, t5, hM, hf⟩
  by_cases c : i < n
  · obtain ⟨vs, ids, cs, h0⟩ := hM
    obtain ⟨v', α2, p1, p2, p3⟩ := (h0.fr (Fr.alloc0 α' ⟨List.replicate n (.bool false), 4, true⟩)).push (i := α'.n) (ci := 0) (rb := List.replicate n (.bool false)) (g := fun _ => false) hf.n (by simp) (AH.alloc_get _ _) (by simp)
      (fun j hj => by simp [hj]) (by omega) 0 (fun k hk => by have := (h0.row k hk).2.2.1; omega)
    rw [AH.alloc_n] at p1
    have e1 : IntKind.i64.wrap ((i : Int) + 1) = (i : Int) + 1 := w64 (by omega)
    simp +contextual [t5, c, mkB n (by omega), p1, e1]
    refine agn_mk (n - (i + 1)) (by omega) (hJ _ _ _ ⟨i + 1, rfl, by omega, by simp, ?_, hf.trans (((Fr.refl _ _).alloc hf.n _).trans p3)⟩)
    simp
    exact p2.congr (fun a b _ _ => by simp)
  · have : i = n := by omega
    subst this
    simp +contextual [t5, hM, hf]

def inr (n : Nat) (x : Cn) : Prop := (0 ≤ x.f ∧ x.f < n) ∧ (0 ≤ x.t ∧ x.t < n)
instance (n : Nat) (x : Cn) : Decidable (inr n x) := by unfold inr; infer_instance
def dep0 (ps : List Pt) (a b : Nat) : Bool := decide (a = b) || ((ps[a]?.map (·.sched)).getD false && (ps[b]?.map (·.sched)).getD false)
def depS (n : Nat) (f : Nat → Nat → Bool) (x : Cn) : Nat → Nat → Bool := if inr n x then upd2 (upd2 f x.f.toNat x.t.toNat true) x.t.toNat x.f.toNat true else f
def depM (c : Cf) : Nat → Nat → Bool := c.chans.foldl (depS c.parts.length) (dep0 c.parts)

def sw0 (ps : List Pt) (a b : Nat) : Bool := decide (a = b) || ((ps[a]?.map (·.sched)).getD false || (ps[a]?.map (·.stop)).getD false)
def swS (n : Nat) (f : Nat → Nat → Bool) (x : Cn) : Nat → Nat → Bool :=
  if inr n x then upd2 (upd2 f x.f.toNat x.t.toNat true) x.t.toNat x.f.toNat (upd2 f x.f.toNat x.t.toNat true x.t.toNat x.f.toNat || x.q) else f
def swM (c : Cf) : Nat → Nat → Bool := c.chans.foldl (swS c.parts.length) (sw0 c.parts)
/-- rows that are not there yet stand as nil slices -/
def nilV : Value := .slice none 0 0
theorem mkBB (n : Nat) (hn : n ≤ 1000000000) (α : AH) : amake Try.prog 38 (.int .i64 n) (.int .i64 n) α = some (.slice (some ⟨α.n, 0, none⟩) n 0, α.alloc ⟨List.replicate n nilV, 40, true⟩) := by
  simp [amake, nilV]
  omega

set_option maxRecDepth 100000 in
theorem rsquare_ok (n : Nat) (hn : n ≤ 1000) (α : AH) :
    NCalls Try.prog 59 [.int .i64 n] α (fun v α' => MX α.n α' v n n (fun a b => decide (a = b)) ∧ Fr α.n α α') := by
  refine ncw mixd Try.func59 rfl Try.results59 (by kernel_rfl) ?_
  simp +contextual [mkBB n (by omega)]
  have hF1 := Fr.alloc0 α ⟨List.replicate n nilV, 40, true⟩
  have hg1 := AH.alloc_get α ⟨List.replicate n nilV, 40, true⟩
  have hn1 := AH.alloc_n α ⟨List.replicate n nilV, 40, true⟩
  generalize α.alloc _ = α1 at *
  refine wlp [4] 9 23 (by kernel_rfl) n (fun k t α' => ∃ i ro ids, k = n - i ∧ i ≤ n ∧ t 9 = .int .i64 i ∧ Fr α.n α α' ∧ α.n < α'.n ∧ α'.get α.n = some ⟨ro, 40, true⟩ ∧ ro.length = n ∧
      (∀ a, a < i → ro[a]? = some (.slice (some ⟨ids a, 0, none⟩) n 0) ∧ α.n < ids a ∧ ids a < α'.n ∧ ∃ b, α'.get (ids a) = some ⟨b, 4, true⟩ ∧ n ≤ b.length ∧ ∀ j, j < n → b[j]? = some (.bool (decide (a = j)))) ∧
      ∀ a b, a < i → b < i → ids a = ids b → a = b)
    ⟨0, _, fun _ => 0, by omega, by omega, by simp, hF1, by omega, hg1, by simp, fun a ha => by omega, fun a b ha => by omega⟩ ?_
  rintro J hJ k t α2 ⟨i, ro, ids, rfl, hi, t9, hf, hn2, hg, hro, hrow, hinj⟩
  by_cases ci : i < n
  · have e1 : IntKind.i64.wrap ((i : Int) + 1) = (i : Int) + 1 := w64 (by omega)
    have hne : α.n ≠ α2.n := by omega
    have hne' : α2.n ≠ α.n := by omega
    simp +contextual [t9, ci, mkB n (by omega), AH.alloc_get_ne, AH.set_get_ne, hne, hne', hg, hro, e1, show i + 1 ≤ n by omega]
    refine agn_mk (n - (i + 1)) (by omega) (hJ _ _ _ ⟨i + 1, ro.set i (.slice (some ⟨α2.n, 0, none⟩) n 0), fun a => if a = i then α2.n else ids a, rfl, by omega, by simp, ?_, ?_, ?_, by simp [hro], fun a ha => ?_, fun a b ha hb he => ?_⟩)
    · exact ((hf.alloc (by omega) _).set (by omega) _).set (by omega) _
    · simp; omega
    · rw [AH.set_get_ne _ _ hne, AH.set_get]
    · by_cases h1 : a = i
      · subst h1
        simp only [if_pos]
        refine ⟨by simp [hro, ci], hn2, by simp, _, AH.set_get _ _ _, by simp, fun j hj => ?_⟩
        rw [List.getElem?_set]
        by_cases h2 : a = j
        · subst h2; simp [ci]
        · rw [if_neg h2]; simp [hj, h2]
      · simp only [if_neg h1]
        obtain ⟨a1, a2, a3, b, b1, b2, b3⟩ := hrow a (by omega)
        refine ⟨by rw [List.getElem?_set_ne (Ne.symm h1)]; exact a1, a2, by simp; omega, b, ?_, b2, b3⟩
        rw [AH.set_get_ne _ _ (by omega), AH.set_get_ne _ _ (by omega), AH.alloc_get_ne _ _ (by omega)]
        exact b1
    · by_cases h1 : a = i <;> by_cases h2 : b = i <;> simp only [h1, h2, if_true, if_false] at he
      · omega
      · have := (hrow b (by omega)).2.2.1; omega
      · have := (hrow a (by omega)).2.2.1; omega
      · exact hinj a b (by omega) (by omega) he
  · have : i = n := by omega
    subst this
    simp +contextual [t9, hf]
    refine ⟨ro, ids, fun _ => 0, ?_, hro, fun a ha => ?_, hinj⟩
    · rw [← hro]
      refine .inr ⟨α.n, 0, _, rfl, Nat.le_refl _, hn2, hg, rfl, rfl, by simp [rawK], fun a ha => ?_⟩
      obtain ⟨a1, _⟩ := hrow a (by omega)
      rw [List.getElem?_eq_getElem ha] at a1
      injection a1 with a1
      refine ⟨?_, by rw [a1]; rfl⟩
      show (ro.drop (a * 1)).take 1 = _
      rw [Nat.mul_one]
      exact win1 (List.getElem?_eq_getElem ha)
    · obtain ⟨a1, a2, a3⟩ := hrow a ha
      exact ⟨a1, by omega, a3⟩
end Go.Proofs.Ytggkeldedennfaa
