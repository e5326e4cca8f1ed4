/- Plain law of tables: rows of nodes, their trees. No program in sight. -/
import Derived.Test.YtggkeldedennfaaLm
set_option linter.unusedVariables false
set_option linter.unusedSimpArgs false
namespace Go.Nod
open Go Go.RowKit Go.Lay

structure Nd where
  k : Int
  p : Int
  n : Int
deriving DecidableEq
def Nd.enc (x : Nd) : List Value := [.int .i64 x.k, .int .i64 x.p, .int .i64 x.n]
def nodeK : Kd Nd := flatK 3 Nd.enc (fun _ => rfl) (fun x v hv => by simp [Nd.enc] at hv; rcases hv with rfl | rfl | rfl <;> rfl)
def kidsM (x : Nd) : Int := if x.n < 1 ∨ (x.k ≠ 1 ∧ x.p ≠ 0) then -1 else if (x.k = 1 ∧ 0 ≤ x.p ∧ x.p < 6) ∨ x.k = 2 then 0 else if x.k = 3 ∧ x.n ≤ 128 then x.n else if x.k = 4 then 1 else -1
theorem kidsM_bd (x : Nd) : -1 ≤ kidsM x ∧ kidsM x ≤ 128 := by unfold kidsM; split <;> (try split) <;> (try split) <;> (try split) <;> omega

/-- Size, as the code reckons it. -/
def sizeGo : List Nd → Int → Int → Int
  | [], _, _ => 0
  | x :: xs, left, c => if kidsM x < 0 then 0 else if left + (kidsM x - 1) = 0 then c + 1 else sizeGo xs (left + (kidsM x - 1)) (c + 1)
def sizeM (xs : List Nd) (at_ : Int) : Int := if at_ < 0 ∨ (xs.length : Int) ≤ at_ then 0 else sizeGo (xs.drop at_.toNat) 1 0

/-- Rows of trees: a node, its children, what stands beside it. -/
inductive F where
  | nil
  | cons (x : Nd) (ks r : F)
deriving DecidableEq
namespace F
def flat : F → List Nd
  | nil => []
  | cons x ks r => x :: (ks.flat ++ r.flat)
def cnt : F → Nat
  | nil => 0
  | cons _ _ r => r.cnt + 1
def ok : F → Prop
  | nil => True
  | cons x ks r => kidsM x = (ks.cnt : Int) ∧ ks.ok ∧ r.ok
def take : Nat → F → F
  | 0, _ => nil
  | _ + 1, nil => nil
  | n + 1, cons x ks r => cons x ks (take n r)
def drop : Nat → F → F
  | 0, f => f
  | _ + 1, nil => nil
  | n + 1, cons _ _ r => drop n r
theorem take_ok : ∀ (n : Nat) (f : F), f.ok → (f.take n).ok ∧ (f.drop n).ok ∧ (f.take n).flat ++ (f.drop n).flat = f.flat ∧ (n ≤ f.cnt → (f.take n).cnt = n ∧ (f.drop n).cnt + n = f.cnt)
  | 0, f, h => by simp [take, drop, flat, ok, cnt, h]
  | n + 1, nil, h => by simp [take, drop, flat, ok, cnt]
  | n + 1, cons x ks r, h => by
    obtain ⟨h1, h2, h3⟩ := h
    obtain ⟨i1, i2, i3, i4⟩ := take_ok n r h3
    refine ⟨⟨h1, h2, i1⟩, i2, by simp [take, drop, flat, i3], fun hn => ?_⟩
    obtain ⟨j1, j2⟩ := i4 (by simp [cnt] at hn; omega)
    simp [take, drop, cnt, j1]; omega
end F

/-- A row that is told whole is a row of trees, and back. -/
theorem scan_f (f : F) : f.ok → ∀ (ys : List Nd) (e c : Int), 0 ≤ e → 1 ≤ f.cnt + e →
    sizeGo (f.flat ++ ys) (f.cnt + e) c = if f = .nil then sizeGo ys e c else if e = 0 then c + f.flat.length else sizeGo ys e (c + f.flat.length) := by
  induction f with
  | nil => intro _ ys e c _ _; simp [F.flat, F.cnt]
  | cons x ks r ih1 ih2 =>
    intro ⟨h1, h2, h3⟩ ys e c he _
    simp only [F.flat, F.cnt, List.cons_append, List.append_assoc, sizeGo, h1]
    rw [if_neg (by omega)]
    have e1 : ((r.cnt + 1 : Nat) : Int) + e + ((ks.cnt : Int) - 1) = ks.cnt + (r.cnt + e) := by omega
    rw [e1]
    simp only [reduceCtorEq, if_false, List.length_cons, List.length_append]
    by_cases hz : (ks.cnt : Int) + (r.cnt + e) = 0
    · have k0 : ks = .nil := by cases ks <;> simp [F.cnt] at *; omega
      have r0 : r = .nil := by cases r <;> simp [F.cnt] at *; omega
      subst k0; subst r0
      have : e = 0 := by simp [F.cnt] at hz; exact hz
      subst this
      simp [F.cnt, F.flat]
    · rw [if_neg hz, ih1 h2 _ _ _ (by omega) (by omega)]
      by_cases k0 : ks = .nil
      · subst k0
        simp only [if_true, F.flat, List.length_nil]
        by_cases r0 : r = .nil
        · subst r0
          simp [F.cnt, F.flat] at *
          exact fun h => absurd h hz
        · rw [ih2 h3 _ _ _ he (by simp [F.cnt] at hz; omega), if_neg r0]
          split <;> (first | omega | (congr 1; omega))
      · rw [if_neg k0]
        by_cases re : (r.cnt : Int) + e = 0
        · have r0 : r = .nil := by cases r <;> simp [F.cnt] at *; omega
          subst r0
          have : e = 0 := by simp [F.cnt] at re; exact re
          subst this
          simp [F.cnt, F.flat]; omega
        · rw [if_neg re, ih2 h3 _ _ _ he (by omega)]
          by_cases r0 : r = .nil
          · subst r0
            simp [F.cnt, F.flat] at *
            rw [if_neg re]; congr 1; omega
          · rw [if_neg r0]
            split <;> (first | omega | (congr 1; omega))

theorem sizeGo_c : ∀ (xs : List Nd) (l c : Int), 0 ≤ c → sizeGo xs l c = 0 ∨ c < sizeGo xs l c
  | [], _, _, _ => .inl rfl
  | x :: xs, l, c, hc => by
    simp only [sizeGo]
    split
    · exact .inl rfl
    · split
      · right; omega
      · rcases sizeGo_c xs (l + (kidsM x - 1)) (c + 1) (by omega) with h | h
        · exact .inl h
        · right; omega
theorem scan_some : ∀ (xs : List Nd) (l : Nat) (c n : Int), 1 ≤ l → 0 ≤ c → sizeGo xs l c = n → 0 < n → ∃ f : F, f.ok ∧ f.cnt = l ∧ ∃ ys, xs = f.flat ++ ys ∧ n = c + f.flat.length
  | [], l, c, n, hl, hc, h, hn => by simp [sizeGo] at h; omega
  | x :: xs, l, c, n, hl, hc, h, hn => by
    simp only [sizeGo] at h
    split at h
    · omega
    · next hk =>
      split at h
      · next h0 =>
        refine ⟨.cons x .nil .nil, ⟨by simp [F.cnt]; omega, trivial, trivial⟩, by simp [F.cnt]; omega, xs, by simp [F.flat], by simp [F.flat]; omega⟩
      · next h0 =>
        obtain ⟨k, hk'⟩ := Int.eq_ofNat_of_zero_le (show 0 ≤ kidsM x by omega)
        obtain ⟨f, f1, f2, ys, f3, f4⟩ := scan_some xs (l + k - 1) (c + 1) n (by omega) (by omega) (by rw [← h]; congr 1; omega) hn
        obtain ⟨t1, t2, t3, t4⟩ := F.take_ok k f f1
        obtain ⟨t5, t6⟩ := t4 (by omega)
        refine ⟨.cons x (f.take k) (f.drop k), ⟨by rw [t5]; exact hk', t1, t2⟩, by simp [F.cnt]; omega, ys, by simp [F.flat, f3, ← t3], ?_⟩
        have : f.flat.length = (f.take k).flat.length + (f.drop k).flat.length := by rw [← t3]; simp
        simp [F.flat]; omega

/-- There is a tree at a place. -/
def At (l : List Nd) (i : Nat) (x : Nd) (ks : F) : Prop := (F.cons x ks .nil).ok ∧ ∃ ys, l.drop i = x :: (ks.flat ++ ys)
def F.sz (x : Nd) (ks : F) : Nat := ks.flat.length + 1
theorem At.lt {l : List Nd} {i : Nat} {x : Nd} {ks : F} (h : At l i x ks) : i + (ks.flat.length + 1) ≤ l.length := by
  obtain ⟨_, ys, h⟩ := h
  have := congrArg List.length h
  simp at this
  omega
theorem At.get {l : List Nd} {i : Nat} {x : Nd} {ks : F} (h : At l i x ks) (hi : i < l.length) : l[i] = x := by
  obtain ⟨_, ys, h⟩ := h
  rw [List.drop_eq_getElem_cons hi] at h
  injection h
theorem At.size {l : List Nd} {i : Nat} {x : Nd} {ks : F} (h : At l i x ks) : sizeM l i = ks.flat.length + 1 := by
  have hl := h.lt
  obtain ⟨h1, ys, h2⟩ := h
  have := scan_f _ h1 ys 0 0 (by omega) (by simp [F.cnt])
  simp [F.flat, F.cnt] at this
  rw [sizeM, if_neg (by omega)]
  simp only [Int.toNat_natCast, h2]
  simpa using this
theorem size_at {l : List Nd} {i : Int} (h : sizeM l i ≠ 0) : ∃ (j : Nat) (x : Nd) (ks : F), i = j ∧ At l j x ks := by
  unfold sizeM at h
  split at h
  · exact absurd rfl h
  · next hc =>
    obtain ⟨j, rfl⟩ := Int.eq_ofNat_of_zero_le (show 0 ≤ i by omega)
    rcases sizeGo_c (l.drop (j : Int).toNat) 1 0 (by omega) with h' | h'
    · exact absurd h' h
    · obtain ⟨f, f1, f2, ys, f3, f4⟩ := scan_some _ 1 0 _ (by omega) (by omega) rfl h'
      cases f with
      | nil => simp [F.cnt] at f2
      | cons x ks r =>
        cases r with
        | cons _ _ _ => simp [F.cnt] at f2
        | nil => exact ⟨j, x, ks, rfl, f1, ys, by simpa [F.flat] using f3⟩
theorem sizeM_nonneg (l : List Nd) (i : Int) : 0 ≤ sizeM l i := by
  by_cases h : sizeM l i = 0
  · omega
  · obtain ⟨j, x, ks, rfl, ha⟩ := size_at h
    rw [ha.size]; omega

/-- The places of a row of trees. -/
def F.places : Nat → F → List Nat
  | _, .nil => []
  | p, .cons _ ks r => p :: F.places (p + (ks.flat.length + 1)) r
/-- A row of trees lies at a place. -/
def Lies (l : List Nd) (i : Nat) (f : F) : Prop := f.ok ∧ i + f.flat.length ≤ l.length ∧ ∃ ys, l.drop i = f.flat ++ ys
theorem At.kids {l : List Nd} {i : Nat} {x : Nd} {ks : F} (h : At l i x ks) : Lies l (i + 1) ks := by
  have hl := h.lt
  obtain ⟨⟨_, h1, _⟩, ys, h2⟩ := h
  refine ⟨h1, by omega, ys, ?_⟩
  rw [← List.drop_drop, h2]; rfl
theorem Lies.head {l : List Nd} {i : Nat} {x : Nd} {ks r : F} (h : Lies l i (.cons x ks r)) : At l i x ks ∧ Lies l (i + (ks.flat.length + 1)) r := by
  obtain ⟨⟨h1, h2, h3⟩, h4, ys, h5⟩ := h
  simp [F.flat] at h4 h5
  refine ⟨⟨⟨h1, h2, trivial⟩, r.flat ++ ys, by simpa using h5⟩, h3, by omega, ys, ?_⟩
  rw [← List.drop_drop, h5]
  simp [List.drop_append]

/-! ### depth and length -/
def F.dep : F → Nat
  | .nil => 0
  | .cons _ ks r => max (ks.dep + 1) r.dep
def val (x : Nd) (s : Int) : Int := if x.k = 3 then s else if x.k = 4 then x.n * s else x.n
def F.len : F → Int
  | .nil => 0
  | .cons x ks r => val x ks.len + r.len
theorem kids_n {x : Nd} {k : Nat} (h : kidsM x = k) : 1 ≤ x.n := by
  unfold kidsM at h
  split at h
  · omega
  · omega
theorem F.len_pos : ∀ f : F, f.ok → (f.cnt : Int) ≤ f.len
  | .nil, _ => by simp [F.cnt, F.len]
  | .cons x ks r, ⟨h1, h2, h3⟩ => by
    have i1 := F.len_pos ks h2
    have i2 := F.len_pos r h3
    have hn := kids_n h1
    have : 1 ≤ val x ks.len := by
      unfold val
      split
      · next h =>
        have : kidsM x = x.n := by
          unfold kidsM at h1 ⊢
          split at h1
          · omega
          · next c1 =>
            rw [if_neg c1]
            rw [if_neg (by omega)] at h1 ⊢
            split at h1
            · next c2 => rw [if_pos c2]
            · rw [if_neg (by omega)] at h1; omega
        omega
      · split
        · next h =>
          have : kidsM x = 1 := by
            unfold kidsM at h1 ⊢
            split at h1
            · omega
            · next c1 => rw [if_neg c1, if_neg (by omega), if_neg (by omega), if_pos h]
          have h1' : 1 ≤ ks.len := by omega
          calc (1 : Int) = 1 * 1 := rfl
            _ ≤ x.n * ks.len := Int.mul_le_mul hn h1' (by omega) (by omega)
        · exact hn
    simp only [F.cnt, F.len]
    omega
theorem F.dep_le : ∀ f : F, f.dep ≤ f.flat.length
  | .nil => by simp [F.dep, F.flat]
  | .cons x ks r => by
    have i1 := F.dep_le ks
    have i2 := F.dep_le r
    simp only [F.dep, F.flat, List.length_cons, List.length_append]
    omega
theorem F.cnt_zero {f : F} (h : f.cnt = 0) : f = .nil := by cases f with | nil => rfl | cons => simp [F.cnt] at h
end Go.Nod
