/- Plain law of tables: a row reckoned with a stack. -/
import Derived.Test.YtggkeldedennfaaNp
set_option linter.unusedVariables false
set_option linter.unusedSimpArgs false
namespace Go.Nod
open Go Go.RowKit Go.Lay

structure Frm where
  x : Nd
  left : Int
  depth : Int
  ticks : Int
def Frm.enc (a : Frm) : List Value := [.int .i64 a.x.k, .int .i64 a.x.p, .int .i64 a.x.n, .int .i64 a.left, .int .i64 a.depth, .int .i64 a.ticks]
def frmK : Kd Frm := flatK 6 Frm.enc (fun _ => rfl) (fun x v hv => by simp [Frm.enc] at hv; rcases hv with rfl | rfl | rfl | rfl | rfl | rfl <;> rfl)
def Frm.tk (a : Frm) : Int := if a.x.k = 4 then min 4097 (a.x.n * a.ticks) else a.ticks
def joinF (a b : Frm) : Frm := ⟨b.x, IntKind.i64.wrap (b.left - 1), if b.depth < IntKind.i64.wrap (a.depth + 1) then IntKind.i64.wrap (a.depth + 1) else b.depth, min 4097 (b.ticks + a.tk)⟩
def pops : List Frm → List Frm
  | a :: b :: s => if a.left = 0 then pops (joinF a b :: s) else a :: b :: s
  | s => s
termination_by s => s.length
theorem pops_cons {a b : Frm} {s : List Frm} (h : a.left = 0) : pops (a :: b :: s) = pops (joinF a b :: s) := by rw [pops, if_pos h]
theorem pops_stop {a : Frm} {s : List Frm} (h : a.left ≠ 0 ∨ s = []) : pops (a :: s) = a :: s := by
  cases s with
  | nil => rw [pops]; simp
  | cons b s =>
    rcases h with h | h
    · rw [pops, if_neg h]
    · cases h
def frm0 (x : Nd) : Frm := ⟨x, kidsM x, 0, if kidsM x = 0 then (if x.n < 4097 then x.n else 4097) else 0⟩
def pushF (st : List Frm) (x : Nd) : List Frm := pops (frm0 x :: st)

theorem wr {n : Int} (h : -9223372036854775808 ≤ n ∧ n ≤ 9223372036854775807) : IntKind.i64.wrap n = n := IntWalk.i64_in n h
theorem kids_zero {x : Nd} (h : kidsM x = 0) : x.k ≠ 3 ∧ x.k ≠ 4 := by
  unfold kidsM at h
  constructor
  · intro hk
    split at h
    · omega
    · next c =>
      rw [if_neg (by omega)] at h
      split at h
      · omega
      · rw [if_neg (by omega)] at h; omega
  · intro hk
    split at h
    · omega
    · split at h
      · omega
      · split at h
        · omega
        · omega
theorem kids_pos {x : Nd} (h : 0 < kidsM x) : x.k = 3 ∨ x.k = 4 := by
  unfold kidsM at h
  split at h
  · omega
  · split at h
    · omega
    · split at h
      · omega
      · split at h <;> omega

set_option maxRecDepth 100000 in
theorem fold_f (f : F) : f.ok → f.flat.length ≤ 1000000000000 → f ≠ .nil → ∀ (t : Frm) (s : List Frm), (f.cnt : Int) ≤ t.left → t.left ≤ 128 → 0 ≤ t.depth → 0 ≤ t.ticks →
    f.flat.foldl pushF (t :: s) = pops (⟨t.x, t.left - f.cnt, max t.depth f.dep, min 4097 (t.ticks + f.len)⟩ :: s) := by
  induction f with
  | nil => intro _ _ h; exact absurd rfl h
  | cons x ks r ih1 ih2 =>
    intro ⟨h1, h2, h3⟩ hlen _ t s hc hm hd ht
    simp only [F.flat, F.cnt, List.length_cons, List.length_append] at hlen hc
    have hkd := F.dep_le ks
    have hkl := F.len_pos ks h2
    have key : ks.flat.foldl pushF (pushF (t :: s) x) = pops (⟨t.x, t.left - 1, max t.depth (ks.dep + 1), min 4097 (t.ticks + val x ks.len)⟩ :: s) := by
      have hl : IntKind.i64.wrap (t.left - 1) = t.left - 1 := wr (by omega)
      by_cases k0 : ks = .nil
      · subst k0
        have z : kidsM x = 0 := by simpa [F.cnt] using h1
        obtain ⟨z1, z2⟩ := kids_zero z
        simp only [F.flat, List.foldl_nil, pushF, frm0, z, if_true]
        rw [pops_cons rfl]
        congr 2
        have e1 : IntKind.i64.wrap (0 + 1) = 1 := by decide
        simp only [joinF, Frm.tk, hl, e1, z2, if_false, F.dep, val, z1]
        congr 1
        · split <;> omega
        · split <;> omega
      · have hp : 1 ≤ ks.cnt := by
          cases ks with
          | nil => exact absurd rfl k0
          | cons _ _ _ => simp [F.cnt]
        have nz : kidsM x ≠ 0 := by omega
        have kb := kidsM_bd x
        have p1 : pushF (t :: s) x = ⟨x, kidsM x, 0, 0⟩ :: t :: s := by
          simp only [pushF, frm0, nz, if_false]
          exact pops_stop (.inl nz)
        rw [p1, ih1 h2 (by omega) k0 _ _ (by simp [h1]) (by simpa using kb.2) (by simp) (by simp)]
        rw [pops_cons (by simp [h1])]
        congr 2
        have hd0 : (0 : Int) + ks.dep ≥ 0 := by omega
        have e1 : IntKind.i64.wrap (max 0 (ks.dep : Int) + 1) = (ks.dep : Int) + 1 := by
          rw [Int.max_eq_right (by omega)]; exact wr (by omega)
        have hn := kids_n h1
        simp only [joinF, Frm.tk, hl, e1]
        congr 1
        · split <;> omega
        · rcases kids_pos (by omega : 0 < kidsM x) with h | h
          · rw [if_neg (by omega), val, if_pos h]; omega
          · rw [if_pos h, val, if_neg (by omega), if_pos h]
            have hmm : min 4097 (x.n * min 4097 (0 + ks.len)) = min 4097 (x.n * ks.len) := by
              rw [Int.zero_add]
              by_cases hs : ks.len ≤ 4097
              · rw [Int.min_eq_right hs]
              · rw [Int.min_eq_left (by omega : (4097 : Int) ≤ ks.len)]
                have a1 : 1 * 4097 ≤ x.n * 4097 := Int.mul_le_mul_of_nonneg_right hn (by omega)
                have a2 : 1 * ks.len ≤ x.n * ks.len := Int.mul_le_mul_of_nonneg_right hn (by omega)
                omega
            rw [hmm]
            omega
    simp only [F.flat, List.foldl_cons, List.foldl_append, key]
    by_cases r0 : r = .nil
    · subst r0
      simp only [F.flat, List.foldl_nil, F.cnt, F.dep, F.len]
      congr 2
      congr 1
      · omega
    · have hp : 1 ≤ r.cnt := by
        cases r with
        | nil => exact absurd rfl r0
        | cons _ _ _ => simp [F.cnt]
      rw [pops_stop (.inl (by simp; omega)), ih2 h3 (by omega) r0 _ _ (by simp; omega) (by simp; omega) (by simp; omega) (by have := F.len_pos ks h2; have : 0 ≤ val x ks.len := by { have := F.len_pos (F.cons x ks .nil) ⟨h1, h2, trivial⟩; simp [F.cnt, F.len] at this; omega }; simp; omega)]
      have := F.len_pos r h3
      simp only [F.cnt, F.dep, F.len]
      congr 2
      congr 1
      · omega
      · omega
      · omega

/-- A whole table, reckoned. -/
theorem fold_whole {x : Nd} {ks : F} (h : (F.cons x ks .nil).ok) (hl : ks.flat.length + 1 ≤ 1000000000000) (z : Nd) :
    (x :: ks.flat).foldl pushF [⟨z, 1, 0, 0⟩] = [⟨z, 0, ks.dep + 1, min 4097 (val x ks.len)⟩] := by
  have := fold_f _ h (by simpa [F.flat] using hl) (by simp) ⟨z, 1, 0, 0⟩ [] (by simp [F.cnt]) (by simp) (by simp) (by simp)
  simp [F.flat, F.cnt, F.dep, F.len] at this
  rw [List.foldl_cons, this, pops_stop (.inr rfl), Int.max_eq_right (by omega)]
/-- What each place of the stack is at all times. -/
def GoodF (a : Frm) : Prop := 0 ≤ a.ticks ∧ a.ticks ≤ 4097 ∧ (a.x.k = 4 → 1 ≤ a.x.n)
theorem tk_good {a : Frm} (h : GoodF a) : 0 ≤ a.tk ∧ a.tk ≤ 4097 := by
  obtain ⟨h1, h2, h3⟩ := h
  unfold Frm.tk
  split
  · next hk =>
    have : 0 ≤ a.x.n * a.ticks := Int.mul_nonneg (by have := h3 hk; omega) h1
    omega
  · exact ⟨h1, h2⟩
theorem join_good {a b : Frm} (h : GoodF a) (k : GoodF b) : GoodF (joinF a b) := by
  have := tk_good h
  refine ⟨?_, ?_, k.2.2⟩
  · simp only [joinF]; have := k.1; omega
  · simp only [joinF]; omega
theorem frm0_good {x : Nd} (h : 1 ≤ x.n) : GoodF (frm0 x) := by
  refine ⟨?_, ?_, fun _ => h⟩
  · simp only [frm0]; split <;> (try split) <;> omega
  · simp only [frm0]; split <;> (try split) <;> omega
end Go.Nod
