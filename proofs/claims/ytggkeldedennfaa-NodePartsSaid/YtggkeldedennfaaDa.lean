/- What the program's data are: runs, channels, partitions, configurations; how they lie in memory. -/
import Derived.Test.YtggkeldedennfaaLx
import Derived.Test.YtggkeldedennfaaCa
import Derived.Test.YtggkeldedennfaaNp
set_option linter.unusedVariables false
set_option linter.unusedSimpArgs false
namespace Go.Nod
open Go Go.RowKit Go.Lay
structure Rn where
  p : Int
  n : Int
deriving DecidableEq
structure Pc where
  e : Int
  q : Int
deriving DecidableEq
structure Cn where
  f : Int
  t : Int
  q : Bool
  cap : Int
  max : Int
  late : Int
deriving DecidableEq
structure Pt where
  name : ByteArray
  bud : Int
  per : Int
  sched : Bool
  stop : Bool
  procs : List Pc
  health : List Int
structure Cf where
  parts : List Pt
  chans : List Cn
  tabs : List (List Nd)
def Rn.enc (x : Rn) : List Value := [.int .i64 x.p, .int .i64 x.n]
def Pc.enc (x : Pc) : List Value := [.int .i64 x.e, .int .i64 x.q]
def Cn.enc (x : Cn) : List Value := [.int .i64 x.f, .int .i64 x.t, .bool x.q, .int .i64 x.cap, .int .u32 x.max, .int .i64 x.late]
def runK : Kd Rn := flatK 2 Rn.enc (fun _ => rfl) (fun x v hv => by simp [Rn.enc] at hv; rcases hv with rfl | rfl <;> rfl)
def procK : Kd Pc := flatK 2 Pc.enc (fun _ => rfl) (fun x v hv => by simp [Pc.enc] at hv; rcases hv with rfl | rfl <;> rfl)
def chanK : Kd Cn := flatK 6 Cn.enc (fun _ => rfl) (fun x v hv => by simp [Cn.enc] at hv; rcases hv with rfl | rfl | rfl | rfl | rfl | rfl <;> rfl)
end Go.Nod
namespace Go.Lay
open Go Go.RowKit
/-- What a slice says where it is read; one block for all. -/
theorem Sl.rd1 {τ : Type} {e : TypeId} {K : Kd τ} {α : AH} {v : Value} {xs : List τ} (h : Sl e K α v xs) {P : Program} {t : TypeId} (hu : P.underlying t = some (.slice e)) (hs : sizeA P e = some K.sz) :
    ∃ id off, (alen P #[t] v = some (.int .i64 (xs.length : Int))) ∧ (∀ (k : IntKind) (i : Nat), i < xs.length → aindexAddr P t v (.int k (i : Int)) = some (.pointer (some ⟨id, off + i * K.sz, none⟩))) ∧
      ∀ β, Fr α.n α β → ∃ b, (0 < xs.length → β.get id = some b) ∧ ∀ (i : Nat) (hi : i < xs.length), off + i * K.sz + K.sz ≤ b.cells.length ∧ K.R β xs[i] ((b.cells.drop (off + i * K.sz)).take K.sz) := by
  rcases h with ⟨rfl, rfl⟩ | ⟨id, off, c, b, rfl, h2, h3, h4, h5, h6⟩
  · exact ⟨0, 0, by simp [hu], fun k i hi => by simp at hi, fun β _ => ⟨⟨[], 0, true⟩, fun h => by simp at h, fun i hi => by simp at hi⟩⟩
  · refine ⟨id, off, by simp [hu], fun k i hi => by simp [hu, hi, hs], fun β hf => ⟨b, fun _ => by rw [hf.get id h2]; exact h3, fun i hi => ⟨?_, K.fr hf (h6 i hi)⟩⟩⟩
    have : (i + 1) * K.sz ≤ xs.length * K.sz := Nat.mul_le_mul_right _ hi
    rw [Nat.succ_mul] at this
    omega
/-- What a slice of flat things says where it is read. -/
theorem Sl.rdf {τ : Type} {e : TypeId} {sz : Nat} {enc : τ → List Value} {h1 h2} {α : AH} {v : Value} {xs : List τ} (h : Sl e (flatK sz enc h1 h2) α v xs) {P : Program} {t : TypeId} (hu : P.underlying t = some (.slice e)) (hs : sizeA P e = some sz) :
    ∃ id off, alen P #[t] v = some (.int .i64 (xs.length : Int)) ∧ (∀ (k : IntKind) (i : Nat), i < xs.length → aindexAddr P t v (.int k (i : Int)) = some (.pointer (some ⟨id, off + i * sz, none⟩))) ∧
      ∀ β, Fr α.n α β → ∃ b, (0 < xs.length → β.get id = some b) ∧ ∀ (i : Nat) (hi : i < xs.length), off + i * sz + sz ≤ b.cells.length ∧ (b.cells.drop (off + i * sz)).take sz = enc xs[i] ∧ ∀ j v, (enc xs[i])[j]? = some v → b.cells[off + i * sz + j]? = some v := by
  obtain ⟨id, off, a1, a2, a3⟩ := h.rd1 hu (show sizeA P e = some (flatK sz enc h1 h2).sz from hs)
  refine ⟨id, off, a1, a2, fun β hf => ?_⟩
  obtain ⟨b, b1, b2⟩ := a3 β hf
  refine ⟨b, b1, fun i hi => ?_⟩
  have b3 : (b.cells.drop (off + i * sz)).take sz = enc xs[i] := (b2 i hi).2
  exact ⟨(b2 i hi).1, b3, fun j v hv => by rw [take_get b3 (List.getElem?_eq_some_iff.1 hv).1]; exact hv⟩
theorem Sl.isSl {τ : Type} {e : TypeId} {K : Kd τ} {α : AH} {v : Value} {xs : List τ} (h : Sl e K α v xs) : ∃ a c, v = .slice a xs.length c := by
  rcases h with ⟨rfl, rfl⟩ | ⟨id, off, c, b, rfl, _⟩
  · exact ⟨_, _, rfl⟩
  · exact ⟨_, _, rfl⟩
end Go.Lay
namespace Go.Proofs.Ytggkeldedennfaa
open Go Go.RowKit Go.Lay Go.Nod
abbrev Runs (α : AH) (v : Value) (xs : List Rn) : Prop := Sl 102 runK α v xs
abbrev OwR (N : Nat) (α : AH) (v : Value) (xs : List Rn) : Prop := Ow N 102 runK α v xs
def prtR (α : AH) (x : Pt) (c : List Value) : Prop := ∃ vp h0 h1 h2 h3 h4, c = [.string x.name, .int .i64 x.bud, .int .i64 x.per, .bool x.sched, .bool x.stop, vp, .int .i64 h0, .int .i64 h1, .int .i64 h2, .int .i64 h3, .int .i64 h4] ∧
  x.health = [h0, h1, h2, h3, h4] ∧ Sl 70 procK α vp x.procs
def prtK : Kd Pt := ⟨11, prtR, fun ⟨_, _, _, _, _, _, h, _⟩ => by rw [h]; rfl, fun ⟨_, _, _, _, _, _, h, _, k⟩ v hv => by
    rw [h] at hv
    simp only [List.mem_cons, List.not_mem_nil, or_false] at hv
    rcases hv with rfl | rfl | rfl | rfl | rfl | rfl | rfl | rfl | rfl | rfl | rfl <;> first | rfl | exact k.isCell,
  fun hf ⟨vp, a, b, c, d, e, h, k, l⟩ => ⟨vp, a, b, c, d, e, h, k, l.fr hf⟩⟩
abbrev Parts (α : AH) (v : Value) (xs : List Pt) : Prop := Sl 68 prtK α v xs
abbrev Chans (α : AH) (v : Value) (xs : List Cn) : Prop := Sl 36 chanK α v xs
abbrev Tabs (α : AH) (v : Value) (xs : List (List Nd)) : Prop := Sl 49 (sliceK 55 nodeK) α v xs
/-- A configuration. -/
def IsCfg (α : AH) (v : Value) (c : Cf) : Prop := ∃ vp vc vt, v = .agg #[vp, vc, vt] ∧ Parts α vp c.parts ∧ Chans α vc c.chans ∧ Tabs α vt c.tabs
theorem IsCfg.fr {α β : AH} {v : Value} {c : Cf} (h : IsCfg α v c) (hf : Fr α.n α β) : IsCfg β v c := by
  obtain ⟨vp, vc, vt, h1, h2, h3, h4⟩ := h
  exact ⟨vp, vc, vt, h1, h2.fr hf, h3.fr hf, h4.fr hf⟩

theorem part_rd {α : AH} {v : Value} {xs : List Pt} (h : Parts α v xs) : ∃ id off, alen Try.prog #[22] v = some (.int .i64 (xs.length : Int)) ∧
      (∀ (k : IntKind) (i : Nat), i < xs.length → aindexAddr Try.prog 22 v (.int k (i : Int)) = some (.pointer (some ⟨id, off + i * 11, none⟩))) ∧
      ∀ β, Fr α.n α β → ∃ b, (0 < xs.length → β.get id = some b) ∧ ∀ (i : Nat) (hi : i < xs.length), ∃ vp h0 h1 h2 h3 h4, off + i * 11 + 11 ≤ b.cells.length ∧
        (b.cells.drop (off + i * 11)).take 11 = [.string xs[i].name, .int .i64 xs[i].bud, .int .i64 xs[i].per, .bool xs[i].sched, .bool xs[i].stop, vp, .int .i64 h0, .int .i64 h1, .int .i64 h2, .int .i64 h3, .int .i64 h4] ∧
        xs[i].health = [h0, h1, h2, h3, h4] ∧ Sl 70 procK β vp xs[i].procs ∧ b.cells[off + i * 11]? = some (.string xs[i].name) ∧ b.cells[off + i * 11 + 1]? = some (.int .i64 xs[i].bud) ∧ b.cells[off + i * 11 + 2]? = some (.int .i64 xs[i].per) ∧
        b.cells[off + i * 11 + 3]? = some (.bool xs[i].sched) ∧ b.cells[off + i * 11 + 4]? = some (.bool xs[i].stop) ∧ b.cells[off + i * 11 + 5]? = some vp := by
  obtain ⟨id, off, a1, a2, a3⟩ := h.rd1 (t := 22) Try.underlying22 sz68
  refine ⟨id, off, a1, a2, fun β hf => ?_⟩
  obtain ⟨b, b1, b2⟩ := a3 β hf
  refine ⟨b, b1, fun i hi => ?_⟩
  obtain ⟨b2, vp, h0, h1, h2, h3, h4, b3, b4, b5⟩ := b2 i hi
  have b3' : (b.cells.drop (off + i * 11)).take 11 = _ := b3
  have g : ∀ j (v : Value), j < 11 → [.string xs[i].name, .int .i64 xs[i].bud, .int .i64 xs[i].per, .bool xs[i].sched, .bool xs[i].stop, vp, .int .i64 h0, .int .i64 h1, .int .i64 h2, .int .i64 h3, .int .i64 h4][j]? = some v → b.cells[off + i * 11 + j]? = some v :=
    fun j v hj hv => by rw [take_get b3' hj]; exact hv
  exact ⟨vp, h0, h1, h2, h3, h4, b2, b3', b4, b5, g 0 _ (by omega) rfl, g 1 _ (by omega) rfl, g 2 _ (by omega) rfl, g 3 _ (by omega) rfl, g 4 _ (by omega) rfl, g 5 _ (by omega) rfl⟩
/-! ### square rows of rows of bools, of one's own -/
def upd2 (f : Nat → Nat → Bool) (a b : Nat) (x : Bool) : Nat → Nat → Bool := fun i j => if i = a ∧ j = b then x else f i j
def mat (n : Nat) (f : Nat → Nat → Bool) : List (List Bool) := (List.range n).map fun i => (List.range n).map (f i)
abbrev Mats (α : AH) (v : Value) (m : List (List Bool)) : Prop := Sl 40 (sliceK 4 boolK) α v m
/-- values as they are -/
def rawK : Kd Value := ⟨1, fun _ x c => c = [x] ∧ isCell x = true, fun h => by rw [h.1]; rfl, fun h v hv => by rw [h.1] at hv; simp at hv; rw [hv]; exact h.2, fun _ h => h⟩
theorem rawK_apart (e : TypeId) : rawK.apart e := fun _ _ _ _ _ _ _ _ h => h
structure Mx (N : Nat) (α : AH) (v : Value) (r n : Nat) (f : Nat → Nat → Bool) (vs : List Value) (ids cs : Nat → Nat) : Prop where
  o : Ow N 40 rawK α v vs
  len : vs.length = r
  row : ∀ i, i < r → vs[i]? = some (.slice (some ⟨ids i, 0, none⟩) n (cs i)) ∧ N ≤ ids i ∧ ids i < α.n ∧ ∃ b, α.get (ids i) = some ⟨b, 4, true⟩ ∧ n ≤ b.length ∧ ∀ j, j < n → b[j]? = some (.bool (f i j))
  inj : ∀ i j, i < r → j < r → ids i = ids j → i = j
def MX (N : Nat) (α : AH) (v : Value) (r n : Nat) (f : Nat → Nat → Bool) : Prop := ∃ vs ids cs, Mx N α v r n f vs ids cs
theorem Mx.fr {N : Nat} {α β : AH} {v : Value} {r n : Nat} {f : Nat → Nat → Bool} {vs : List Value} {ids cs : Nat → Nat} (h : Mx N α v r n f vs ids cs) (hf : Fr α.n α β) : Mx N β v r n f vs ids cs := by
  obtain ⟨h1, h2, h3, h4⟩ := h
  refine ⟨h1.fr hf, h2, fun i hi => ?_, h4⟩
  obtain ⟨a1, a2, a3, b, b1, b2, b3⟩ := h3 i hi
  exact ⟨a1, a2, Nat.lt_of_lt_of_le a3 hf.n, b, by rw [hf.get _ a3]; exact b1, b2, b3⟩
theorem MX.fr {N : Nat} {α β : AH} {v : Value} {r n : Nat} {f : Nat → Nat → Bool} (h : MX N α v r n f) (hf : Fr α.n α β) : MX N β v r n f := let ⟨vs, ids, cs, h⟩ := h; ⟨vs, ids, cs, h.fr hf⟩
theorem MX.mono {N N' : Nat} {α : AH} {v : Value} {r n : Nat} {f : Nat → Nat → Bool} (h : MX N α v r n f) (hn : N' ≤ N) : MX N' α v r n f := by
  obtain ⟨vs, ids, cs, h1, h2, h3, h4⟩ := h
  exact ⟨vs, ids, cs, h1.mono hn, h2, fun i hi => let ⟨a1, a2, a3⟩ := h3 i hi; ⟨a1, Nat.le_trans hn a2, a3⟩, h4⟩
theorem MX.isSl {N : Nat} {α : AH} {v : Value} {r n : Nat} {f : Nat → Nat → Bool} (h : MX N α v r n f) : ∃ a c, v = .slice a r c := by
  obtain ⟨vs, ids, cs, h1, rfl, h3, h4⟩ := h
  exact h1.sl.isSl
theorem MX.congr {N : Nat} {α : AH} {v : Value} {r n : Nat} {f g : Nat → Nat → Bool} (h : MX N α v r n f) (he : ∀ i j, i < r → j < n → f i j = g i j) : MX N α v r n g := by
  obtain ⟨vs, ids, cs, h1, h2, h3, h4⟩ := h
  refine ⟨vs, ids, cs, h1, h2, fun i hi => ?_, h4⟩
  obtain ⟨a1, a2, a3, b, b1, b2, b3⟩ := h3 i hi
  exact ⟨a1, a2, a3, b, b1, b2, fun j hj => by rw [b3 j hj, he i j hi hj]⟩
def rmat (r n : Nat) (f : Nat → Nat → Bool) : List (List Bool) := (List.range r).map fun i => (List.range n).map (f i)
theorem win1 {l : List Value} {i : Nat} {v : Value} (h : l[i]? = some v) : (l.drop i).take 1 = [v] := by
  apply List.ext_getElem?
  intro k
  cases k with
  | zero => simpa using h
  | succ k => simp; omega
theorem MX.sl {N : Nat} {α : AH} {v : Value} {r n : Nat} {f : Nat → Nat → Bool} (h : MX N α v r n f) : Mats α v (rmat r n f) := by
  obtain ⟨vs, ids, cs, h1, h2, h3, h4⟩ := h
  have hl : (rmat r n f).length = vs.length := by simp [rmat, h2]
  rcases h1.sl with ⟨rfl, rfl⟩ | ⟨id, off, c, b, rfl, k1, k2, k3, k4, k5⟩
  · simp at h2; subst h2; exact .inl ⟨rfl, rfl⟩
  · refine .inr ⟨id, off, c, b, by rw [hl], k1, k2, k3, by rw [hl]; exact k4, fun i hi => ?_⟩
    have hi' : i < vs.length := by omega
    obtain ⟨a1, a2, a3, rb, b1, b2, b3⟩ := h3 i (by omega)
    have e : (rmat r n f)[i] = (List.range n).map (f i) := by simp [rmat]
    rw [e]
    have k6 : (b.cells.drop (off + i * 1)).take 1 = [vs[i]] := (k5 i hi').1
    rw [List.getElem?_eq_getElem hi'] at a1
    injection a1 with a1
    refine ⟨_, k6, .inr ⟨ids i, 0, cs i, _, by simp [a1], a3, b1, rfl, by simpa [boolK] using b2, fun j hj => ?_⟩⟩
    simp at hj
    show ((rb.drop (0 + j * 1)).take 1) = _
    rw [Nat.mul_one, Nat.zero_add, win1 (b3 j hj)]
    simp
theorem MX.at {N : Nat} {α : AH} {v : Value} {r n : Nat} {f : Nat → Nat → Bool} (h : MX N α v r n f) {a b : Nat} (ha : a < r) (hb : b < n) : ∃ o c ro i ci rb, v = .slice (some ⟨o, 0, none⟩) r c ∧ α.get o = some ⟨ro, 40, true⟩ ∧ ro[a]? = some (.slice (some ⟨i, 0, none⟩) n ci) ∧
    α.get i = some ⟨rb, 4, true⟩ ∧ b + 1 ≤ rb.length ∧ rb[b]? = some (.bool (f a b)) ∧ N ≤ i ∧ i < α.n ∧ i ≠ o ∧ (∀ j, j < n → rb[j]? = some (.bool (f a j))) ∧ ∀ x, MX N (α.set i (some ⟨rb.set b (.bool x), 4, true⟩)) v r n (upd2 f a b x) := by
  obtain ⟨vs, ids, cs, h1, rfl, h3, h4⟩ := h
  obtain ⟨o, c, ro, rfl, g1, g2, g3, g4, g5⟩ := h1.mem (by omega)
  obtain ⟨a1, a2, a3, rb, b1, b2, b3⟩ := h3 a ha
  have hro : ro[a]? = some (.slice (some ⟨ids a, 0, none⟩) n (cs a)) := by
    have := (g5 a ha).1
    have e : ((ro.drop (a * 1)).take 1)[0]? = some vs[a] := by rw [show (ro.drop (a * 1)).take 1 = [vs[a]] from this]; rfl
    rw [List.getElem?_eq_getElem ha] at a1
    rw [a1] at e
    simpa using e
  have hne : ∀ i, i < vs.length → ids i ≠ o := fun i hi he => by
    obtain ⟨_, _, _, rc, d1, _⟩ := h3 i hi
    rw [he, g3] at d1
    injection d1 with d1
    injection d1 with _ d1
    exact absurd d1 (by decide)
  refine ⟨o, c, ro, ids a, cs a, rb, rfl, g3, hro, b1, by omega, b3 b hb, a2, a3, hne a ha, b3, fun x => ⟨vs, ids, cs, ?_, rfl, fun k hk => ?_, h4⟩⟩
  · exact .inr ⟨o, c, ⟨ro, 40, true⟩, rfl, g1, g2, by rw [AH.set_get_ne _ _ (Ne.symm (hne a ha))]; exact g3, rfl, rfl, g4, g5⟩
  · obtain ⟨c1, c2, c3, rc, d1, d2, d3⟩ := h3 k hk
    by_cases hka : k = a
    · subst hka
      refine ⟨c1, c2, c3, rb.set b (.bool x), AH.set_get _ _ _, by simpa using b2, fun j hj => ?_⟩
      rw [List.getElem?_set]
      by_cases hjb : b = j
      · subst hjb; rw [if_pos rfl, if_pos (by omega)]; simp [upd2]
      · rw [if_neg hjb, b3 j hj]; simp [upd2]; intro h; exact absurd h.symm hjb
    · refine ⟨c1, c2, c3, rc, by rw [AH.set_get_ne _ _ (fun he => hka (h4 k a hk ha he))]; exact d1, d2, fun j hj => ?_⟩
      rw [d3 j hj]; simp [upd2]; intro h; exact absurd h hka
/-- Two places, written one behind the other. -/
theorem MX.at2 {N : Nat} {α : AH} {v : Value} {r n : Nat} {f : Nat → Nat → Bool} (h : MX N α v r n f) {a b c d : Nat} (ha : a < r) (hb : b < n) (hc : c < r) (hd : d < n) : ∃ o cc ro i ci ri k ck rk, v = .slice (some ⟨o, 0, none⟩) r cc ∧
    α.get o = some ⟨ro, 40, true⟩ ∧ ro[a]? = some (.slice (some ⟨i, 0, none⟩) n ci) ∧ ro[c]? = some (.slice (some ⟨k, 0, none⟩) n ck) ∧ α.get i = some ⟨ri, 4, true⟩ ∧ α.get k = some ⟨rk, 4, true⟩ ∧ b + 1 ≤ ri.length ∧ d + 1 ≤ rk.length ∧
    (∀ j, j < n → ri[j]? = some (.bool (f a j))) ∧ (∀ j, j < n → rk[j]? = some (.bool (f c j))) ∧ N ≤ i ∧ N ≤ k ∧ (∀ x, MX N (α.set i (some ⟨ri.set b (.bool x), 4, true⟩)) v r n (upd2 f a b x)) ∧
    (∀ x, ∃ rk', (α.set i (some ⟨ri.set b (.bool x), 4, true⟩)).get k = some ⟨rk', 4, true⟩ ∧ d + 1 ≤ rk'.length ∧ rk'[d]? = some (.bool (upd2 f a b x c d)) ∧ ∀ y, MX N ((α.set i (some ⟨ri.set b (.bool x), 4, true⟩)).set k (some ⟨rk'.set d (.bool y), 4, true⟩)) v r n (upd2 (upd2 f a b x) c d y)) ∧
    (∀ y, ∃ ri', (α.set k (some ⟨rk.set d (.bool y), 4, true⟩)).get i = some ⟨ri', 4, true⟩ ∧ b + 1 ≤ ri'.length ∧ ∀ x, MX N ((α.set k (some ⟨rk.set d (.bool y), 4, true⟩)).set i (some ⟨ri'.set b (.bool x), 4, true⟩)) v r n (upd2 (upd2 f c d y) a b x)) := by
  obtain ⟨o, cc, ro, i, ci, ri, rfl, h2, h3, h4, h5, -, h7, h8, h9, h6, h10⟩ := h.at ha hb
  obtain ⟨o', cc', ro', k, ck, rk, e1, k2, k3, k4, k5, -, k7, k8, k9, k6, k10⟩ := h.at hc hd
  cases e1
  rw [h2] at k2
  cases k2
  refine ⟨o, cc, ro, i, ci, ri, k, ck, rk, rfl, h2, h3, k3, h4, k4, h5, k5, h6, k6, h7, k7, h10, fun x => ?_, fun y => ?_⟩
  · obtain ⟨o', cc', ro', k', ck', rk', e1, l2, l3, l4, l5, l6, l7, l8, l9, -, l10⟩ := (h10 x).at hc hd
    cases e1
    rw [AH.set_get_ne _ _ (Ne.symm h9), h2] at l2
    cases l2
    rw [k3] at l3
    cases l3
    exact ⟨rk', l4, l5, l6, l10⟩
  · obtain ⟨o', cc', ro', k', ck', rk', e1, l2, l3, l4, l5, l6, l7, l8, l9, -, l10⟩ := (k10 y).at ha hb
    cases e1
    rw [AH.set_get_ne _ _ (Ne.symm k9), h2] at l2
    cases l2
    rw [h3] at l3
    cases l3
    exact ⟨rk', l4, l5, l10⟩
/-- One more row: in a block i of one's own that no other row lies in. -/
theorem Mx.push {N : Nat} {α : AH} {v : Value} {r n : Nat} {f : Nat → Nat → Bool} {vs : List Value} {ids cs : Nat → Nat} (h0 : Mx N α v r n f vs ids cs) {i ci : Nat} {rb : List Value} {g : Nat → Bool} (hN : N ≤ i) (hi : i < α.n) (hb : α.get i = some ⟨rb, 4, true⟩) (hl : n ≤ rb.length) (hg : ∀ j, j < n → rb[j]? = some (.bool (g j)))
    (hr : r < 1000000000) (cap : Nat) (hne : ∀ k, k < r → ids k ≠ i) :
    ∃ v' α', aappend Try.prog #[38, 38] v (.slice (some ⟨α.n, 0, none⟩) 1 cap) (α.alloc ⟨[.slice (some ⟨i, 0, none⟩) n ci], 40, true⟩) = some (v', α') ∧ MX N α' v' (r + 1) n (fun a b => if a = r then g b else f a b) ∧ Fr N α α' := by
  obtain ⟨h1, rfl, h3, h4⟩ := h0
  obtain ⟨v', α', p1, p2, p3, p4⟩ := h1.push el38 (t := 38) (by omega) (x := .slice (some ⟨i, 0, none⟩) n ci) (c := [.slice (some ⟨i, 0, none⟩) n ci]) ⟨rfl, rfl⟩ (rawK_apart _) (by omega) cap
  have kp : ∀ k b, α.get k = some ⟨b, 4, true⟩ → k < α.n → α'.get k = some ⟨b, 4, true⟩ := fun k b hk hkn => p4 k _ hk (show (4 : Nat) ≠ 40 by decide) hkn
  refine ⟨v', α', p1, ⟨vs ++ [.slice (some ⟨i, 0, none⟩) n ci], fun k => if k = vs.length then i else ids k, fun k => if k = vs.length then ci else cs k, p2, by simp, fun k hk => ?_, fun k l hk hl' he => ?_⟩, p3⟩
  · by_cases hkr : k = vs.length
    · subst hkr
      simp only [if_pos]
      exact ⟨by simp, hN, Nat.lt_of_lt_of_le hi p3.n, rb, kp _ _ hb hi, hl, hg⟩
    · simp only [if_neg hkr]
      obtain ⟨a1, a2, a3, b, b1, b2, b3⟩ := h3 k (by omega)
      exact ⟨by rw [List.getElem?_append_left (by omega)]; exact a1, a2, Nat.lt_of_lt_of_le a3 p3.n, b, kp _ _ b1 a3, b2, b3⟩
  · by_cases hk1 : k = vs.length <;> by_cases hk2 : l = vs.length <;> simp only [hk1, hk2, if_true, if_false] at he
    · omega
    · exact absurd he.symm (hne l (by omega))
    · exact absurd he (hne k (by omega))
    · exact h4 k l (by omega) (by omega) he
end Go.Proofs.Ytggkeldedennfaa
