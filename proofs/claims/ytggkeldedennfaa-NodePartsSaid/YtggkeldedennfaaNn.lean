/- Contract: horariumlaw3.known. -/
import Derived.Test.YtggkeldedennfaaNm
set_option linter.unusedVariables false
set_option linter.unusedSimpArgs false
namespace Go.Proofs.Ytggkeldedennfaa
open Go Go.RowKit Go.Lay Go.Nod

theorem enc_win : ∀ (xs : List Nd) (i : Nat) (hi : i < xs.length), ((xs.flatMap Nd.enc).drop (i * 3)).take 3 = xs[i].enc
  | [], i, hi => by simp at hi
  | x :: xs, 0, hi => by simp [Nd.enc]
  | x :: xs, i + 1, hi => by
    have h := enc_win xs i (by simpa using hi)
    rw [List.flatMap_cons, Nat.succ_mul, Nat.add_comm (i * 3) 3, ← List.drop_drop]
    simpa [Nd.enc] using h
theorem enc_len (xs : List Nd) : (xs.flatMap Nd.enc).length = xs.length * 3 := by
  induction xs with
  | nil => rfl
  | cons x xs ih => simp [List.flatMap_cons, Nd.enc, ih]; omega
theorem lit_own (xs : List Nd) {N : Nat} {α : AH} (hN : N ≤ α.n) (c : Nat) : OwN N (α.alloc ⟨xs.flatMap Nd.enc, 55, true⟩) (.slice (some ⟨α.n, 0, none⟩) xs.length c) xs :=
  Ow.mk hN (by simp [AH.alloc]) (AH.alloc_get _ _) (by rw [enc_len]; exact Nat.le_refl _) fun i hi => enc_win xs i hi
theorem lit_nodes (xs : List Nd) (α : AH) (c : Nat) : Nodes (α.alloc ⟨xs.flatMap Nd.enc, 55, true⟩) (.slice (some ⟨α.n, 0, none⟩) xs.length c) xs := (lit_own xs (Nat.le_refl _) c).sl
theorem lit_pack (xs : List Nd) (α : AH) (c n : Nat) (cells : List Value) (hc : xs.flatMap Nd.enc = cells) (hn : xs.length = n) :
    ∃ β v, α.alloc ⟨cells, 55, true⟩ = β ∧ Value.slice (some ⟨α.n, 0, none⟩) n c = v ∧ Nodes β v xs ∧ Fr α.n α β := by
  subst hc; subst hn
  exact ⟨_, _, rfl, rfl, lit_nodes xs α c, (Fr.refl _ _).alloc (Nat.le_refl _) _⟩
theorem lit_ints (xs : List Int) (α : AH) (c : Nat) : Ints (α.alloc ⟨xs.map (.int .i64), 3, true⟩) (.slice (some ⟨α.n, 0, none⟩) xs.length c) xs := by
  refine .inr ⟨α.n, 0, c, _, rfl, by simp [AH.alloc], AH.alloc_get _ _, rfl, by simp [intK], fun i hi => ?_⟩
  show _ = _
  simp only [intK, Nat.mul_one, Nat.zero_add]
  rw [List.drop_eq_getElem_cons (show i < (xs.map (Value.int .i64)).length by simpa using hi)]
  simp
theorem judged_of (x : Nd) (ks : F) (hok : (F.cons x ks .nil).ok) : Judged (x :: ks.flat) true (ks.dep + 1) (min 4097 (val x ks.len)) := by
  have hA : At (x :: ks.flat) 0 x ks := ⟨hok, [], by simp⟩
  have hs : sizeM (x :: ks.flat) 0 = ks.flat.length + 1 := hA.size
  exact .inr ⟨rfl, by rw [hs]; simp, by simp, x, ks, hok, rfl, rfl, rfl⟩

set_option maxRecDepth 100000 in
set_option maxHeartbeats 4000000 in
theorem known3_ok (α : AH) : NCalls Try.prog 26 [] α (fun r α' => r = .bool true ∧ Fr α.n α α') := by
  have j1 : Judged [⟨4, 0, 2⟩, ⟨1, 0, 3⟩] true 2 6 := judged_of ⟨4, 0, 2⟩ (.cons ⟨1, 0, 3⟩ .nil .nil) (by simp [F.ok, F.cnt, kidsM])
  have j2 : Judged [⟨4, 0, 4611686018427387904⟩, ⟨1, 0, 3⟩] true 2 4097 := judged_of ⟨4, 0, 4611686018427387904⟩ (.cons ⟨1, 0, 3⟩ .nil .nil) (by simp [F.ok, F.cnt, kidsM])
  have j0 : Judged [] false 0 0 := .inl ⟨rfl, by simp, rfl, rfl⟩
  have k1 : KidsAre [⟨3, 0, 2⟩, ⟨2, 0, 1⟩, ⟨2, 0, 2⟩] 0 [1, 2] := .inr ⟨0, ⟨3, 0, 2⟩, .cons ⟨2, 0, 1⟩ .nil (.cons ⟨2, 0, 2⟩ .nil .nil), rfl, ⟨by simp [F.ok, F.cnt, kidsM], [], rfl⟩, rfl⟩
  have z1 : sizeM [⟨4, 0, 2⟩, ⟨1, 0, 3⟩] 1 = 1 := by decide
  have z2 : sizeM [⟨4, 0, 2⟩, ⟨1, 0, 3⟩] 9 = 0 := by decide
  have hf : Fr α.n α α := .refl _ _
  refine ncalls_of (by kernel_rfl) Try.func26 rfl (by rw [Try.ntmps26]; simp) ?_
  rw [Try.ntmps26, Try.results26]
  repeat (first
    | (refine nw_seq (nw_region fun K hK => ?_); simp []; refine hK _ _ ?_; clear hK K)
    | (refine nw_region fun K hK => ?_; simp []; refine hK _ _ ?_; clear hK K)
    | refine nw_seq ?_
    | refine nw_block ?_
    | (refine nw_yes ?_ ?_; focus (simp []; done))
    | (refine nw_no ?_ ?_; focus (simp []; done))
    | refine nw_skip ?_
    | refine nw_exit ?_
    | refine nw_ret ?_)
  obtain ⟨α1, v, q1, q2, hl, hf⟩ := lit_pack [⟨4, 0, 2⟩, ⟨1, 0, 3⟩] α 0 2 _ rfl rfl
  simp only [List.flatMap_cons, List.flatMap_nil, Nd.enc, List.append_nil, List.cons_append, List.nil_append] at q1
  simp only [q1, q2]
  refine nw_region fun K hK => ?_
  simp []
  refine (length_ok _ j1 _ v hl (by simp)).mono fun r γ hr => ?_
  obtain ⟨rfl, hg⟩ := hr
  replace hf := Fr.up hf hg
  have hg0 := hg
  clear hg
  simp [contK, ]
  refine hK _ _ ?_
  clear hK K
  replace hl := hl.fr hg0
  repeat (first
    | (refine nw_seq (nw_region fun K hK => ?_); simp []; refine hK _ _ ?_; clear hK K)
    | (refine nw_region fun K hK => ?_; simp []; refine hK _ _ ?_; clear hK K)
    | refine nw_seq ?_
    | refine nw_block ?_
    | (refine nw_yes ?_ ?_; focus (simp []; done))
    | (refine nw_no ?_ ?_; focus (simp []; done))
    | refine nw_skip ?_
    | refine nw_exit ?_
    | refine nw_ret ?_)
  refine nw_region fun K hK => ?_
  simp []
  obtain ⟨γ1, v1, e1, e2, hl1, hg⟩ := lit_pack [⟨4, 0, 4611686018427387904⟩, ⟨1, 0, 3⟩] γ 0 2 _ rfl rfl
  simp only [List.flatMap_cons, List.flatMap_nil, Nd.enc, List.append_nil, List.cons_append, List.nil_append] at e1
  simp only [e1, e2]
  replace hl := hl.fr hg
  replace hf := Fr.up hf hg
  refine (length_ok _ j2 _ v1 hl1 (by simp)).mono fun r γ hr => ?_
  obtain ⟨rfl, hg⟩ := hr
  replace hf := Fr.up hf hg
  have hg0 := hg
  clear hg
  simp [contK, ]
  refine hK _ _ ?_
  clear hK K
  replace hl := hl.fr hg0
  repeat (first
    | (refine nw_seq (nw_region fun K hK => ?_); simp []; refine hK _ _ ?_; clear hK K)
    | (refine nw_region fun K hK => ?_; simp []; refine hK _ _ ?_; clear hK K)
    | refine nw_seq ?_
    | refine nw_block ?_
    | (refine nw_yes ?_ ?_; focus (simp []; done))
    | (refine nw_no ?_ ?_; focus (simp []; done))
    | refine nw_skip ?_
    | refine nw_exit ?_
    | refine nw_ret ?_)
  refine nw_region fun K hK => ?_
  simp []
  obtain ⟨γ2, v2, e1, e2, hl2, hg⟩ := lit_pack [⟨3, 0, 2⟩, ⟨2, 0, 1⟩, ⟨2, 0, 2⟩] γ 0 3 _ rfl rfl
  simp only [List.flatMap_cons, List.flatMap_nil, Nd.enc, List.append_nil, List.cons_append, List.nil_append] at e1
  simp only [e1, e2]
  replace hl := hl.fr hg
  replace hf := Fr.up hf hg
  refine (kids_any _ 0 _ k1 _ v2 hl2 (by simp)).mono fun kv γ hr => ?_
  obtain ⟨ho, hg⟩ := hr
  replace hl := hl.fr hg
  replace hf := Fr.up hf hg
  simp [contK, ]
  refine hK _ _ ?_
  clear hK K
  repeat (first
    | (refine nw_seq (nw_region fun K hK => ?_); simp []; refine hK _ _ ?_; clear hK K)
    | (refine nw_region fun K hK => ?_; simp []; refine hK _ _ ?_; clear hK K)
    | refine nw_seq ?_
    | refine nw_block ?_
    | (refine nw_yes ?_ ?_; focus (simp []; done))
    | (refine nw_no ?_ ?_; focus (simp []; done))
    | refine nw_skip ?_
    | refine nw_exit ?_
    | refine nw_ret ?_)
  refine nw_region fun K hK => ?_
  simp []
  refine (right_ok _ j0 _ (.slice none 0 0) (.inl ⟨rfl, rfl⟩) (by simp)).mono fun r γ hr => ?_
  obtain ⟨rfl, hg⟩ := hr
  replace hf := Fr.up hf hg
  have hg0 := hg
  clear hg
  simp [contK, rightM]
  replace hl := hl.fr hg0
  have hkv := ho.sl.fr hg0
  refine (right_ok _ j1 _ v hl (by simp)).mono fun r γ hr => ?_
  obtain ⟨rfl, hg⟩ := hr
  replace hf := Fr.up hf hg
  have hg0 := hg
  clear hg
  simp [contK, rightM]
  replace hl := hl.fr hg0
  replace hkv := hkv.fr hg0
  refine (depth_ok _ j1 _ v hl (by simp)).mono fun r γ hr => ?_
  obtain ⟨rfl, hg⟩ := hr
  replace hf := Fr.up hf hg
  have hg0 := hg
  clear hg
  simp [contK, ]
  replace hl := hl.fr hg0
  replace hkv := hkv.fr hg0
  refine (size_ok _ 1 _ v hl (by simp)).mono fun r γ hr => ?_
  obtain ⟨rfl, hg⟩ := hr
  replace hf := Fr.up hf hg
  have hg0 := hg
  clear hg
  simp [contK, z1]
  replace hl := hl.fr hg0
  replace hkv := hkv.fr hg0
  refine (size_ok _ 9 _ v hl (by simp)).mono fun r γ hr => ?_
  obtain ⟨rfl, hg⟩ := hr
  replace hf := Fr.up hf hg
  have hg0 := hg
  clear hg
  simp [contK, z2]
  replace hl := hl.fr hg0
  replace hkv := hkv.fr hg0
  have hfa : ∀ b, Fr γ.n γ (γ.alloc b) := fun b => (Fr.refl _ _).alloc (Nat.le_refl _) b
  refine (bookSame_ok [1, 2] [1, 2] _ kv _ (hkv.fr (hfa _)) (lit_ints [1, 2] _ 0) (by simp)).mono fun r γ' hr => ?_
  obtain ⟨rfl, rfl⟩ := hr
  replace hf := Fr.up hf (hfa ⟨[.int .i64 1, .int .i64 2], 3, true⟩)
  simp [contK]
  refine (same_ok _ _ v (hl.fr (hfa _)) (by simp)).mono fun r γ' hr => ?_
  obtain ⟨rfl, rfl⟩ := hr
  simp [contK, ]
  refine hK _ _ ?_
  clear hK K
  repeat (first
    | (refine nw_seq (nw_region fun K hK => ?_); simp []; refine hK _ _ ?_; clear hK K)
    | (refine nw_region fun K hK => ?_; simp []; refine hK _ _ ?_; clear hK K)
    | refine nw_seq ?_
    | refine nw_block ?_
    | (refine nw_yes ?_ ?_; focus (simp []; done))
    | (refine nw_no ?_ ?_; focus (simp []; done))
    | refine nw_skip ?_
    | refine nw_exit ?_
    | refine nw_ret ?_)
  simp
  exact hf
end Go.Proofs.Ytggkeldedennfaa
