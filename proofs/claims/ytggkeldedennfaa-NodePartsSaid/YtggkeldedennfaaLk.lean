/- The layer, part 8: regions whose order Go leaves open. -/
import Derived.Test.YtggkeldedennfaaLg
set_option linter.unusedVariables false
set_option linter.unusedSimpArgs false
namespace Go.Lay
open Go Go.RowKit

def NAt (P : Program) (N : Nat) (ops : Array Oper) (i : Nat) (F : AS → AH → Prop) (s : AS) (α : AH) : Prop :=
  match ops[i]? with
  | some o => guardOk ops o s ∧ if wantedA ops o s = true then NOp P N o F s α else fitsA N o.dst ∧ F (putA s o.dst undef) α
  | none => False
/-- Whatever comes next, in each order. -/
def NAny (P : Program) (N : Nat) (ops : Array Oper) (K : AS → AH → Prop) : Nat → Array Bool → AS → AH → Prop
  | 0, l, s, α => Region.ready .any ops l = [] ∧ K s α
  | n + 1, l, s, α => (Region.ready .any ops l = [] → K s α) ∧ ∀ i ∈ Region.ready .any ops l, NAt P N ops i (NAny P N ops K n (l.setIfInBounds i true)) s α

theorem wanted_eq {m : AM} {N : Nat} {s : AS} {a : Act} (hs : SR m N s a) {ops : Array Oper} {o : Oper} (hg : guardOk ops o s) : Region.wanted o (yielded ops a.tmps) = wantedA ops o s := by
  unfold Region.wanted wantedA
  cases ho : o.guard with
  | none => rfl
  | some jw =>
    obtain ⟨j, want⟩ := jw
    simp only
    rw [yielded_eq hs ops j (fun t ht => by simp only [guardOk, ho, ht] at hg; exact hg)]

theorem nat_sound {P : Program} {G : World} {m m0 : AM} {α : AH} {w : World} (hm : m0.le m) (h : Rel P G m α w) {N : Nat} {s : AS} {a : Act} (hs : SR m N s a) {ops : Array Oper} {i : Nat} {F : AS → AH → Prop} {Q : Exit → AS → AH → Prop} {next : Act → World → Prop}
    (hn : NAt P N ops i F s α) (hK : ∀ m' s' α' a' w', m0.le m' → Rel P G m' α' w' → SR m' N s' a' → F s' α' → next a' w') : wpOp P ops (Lift P G m0 N Q) i next a w := by
  unfold NAt at hn
  unfold wpOp
  cases ho : ops[i]? with
  | none => rw [ho] at hn; exact hn.elim
  | some o =>
    rw [ho] at hn
    obtain ⟨hg, hn⟩ := hn
    simp only
    rw [wanted_eq hs hg]
    split at hn
    · rename_i hc
      rw [if_pos hc]
      exact .inl (nop_sound hm h hs hn hK)
    · rename_i hc
      rw [if_neg hc]
      exact hK m _ α _ w hm h (hs.putA hn.1 (VR.undef m)) hn.2

theorem nany_sound {P : Program} {G : World} {m0 : AM} {N : Nat} {ops : Array Oper} {K : AS → AH → Prop} {Q : Exit → AS → AH → Prop} (hK : ∀ s α, K s α → Q .normal s α) : ∀ (n : Nat) (l : Array Bool)
    (m : AM) (α : AH) (w : World) (s : AS) (a : Act), m0.le m → Rel P G m α w → SR m N s a → NAny P N ops K n l s α → wpAny P .any ops (Lift P G m0 N Q) n l a w
  | 0, l, m, α, w, s, a, hm, h, hs, hn => ⟨hn.1, rfl, m, s, α, hm, h, hs, hK s α hn.2⟩
  | n + 1, l, m, α, w, s, a, hm, h, hs, hn => ⟨fun h0 => ⟨rfl, m, s, α, hm, h, hs, hK s α (hn.1 h0)⟩, fun i hi =>
      nat_sound hm h hs (hn.2 i hi) fun m' s' α' a' w' b1 b2 b3 b4 => nany_sound hK n _ m' α' w' s' a' b1 b2 b3 b4⟩

/-! ### which may be looked at first -/
/-- looks at no memory -/
def memless : Op → Bool
  | .slice .. => false
  | op => quietA op
/-- changes no memory -/
def calmA : Op → Bool
  | .load .. => true
  | op => quietA op
/-! ### what an operation looks at -/
theorem aop_congr {P : Program} {op : Op} {s s' : AS} {α : AH} (h : ∀ x ∈ op.operands, ev s x = ev s' x) : aop P op s α = aop P op s' α := by
  have pairs : ∀ ps : Array (Nat × Operand), (∀ x ∈ ps.toList.map (·.2), ev s x = ev s' x) → (ps.toList.map fun p => (p.1, ev s p.2)) = (ps.toList.map fun p => (p.1, ev s' p.2)) := fun ps hp =>
    List.map_congr_left fun p hm => by rw [hp p.2 (List.mem_map.2 ⟨p, hm, rfl⟩)]
  cases op <;> simp only [Op.operands] at h
  case build t ps => simp only [aop]; rw [pairs ps fun x hx => h x (by simpa using hx)]
  case buildSlice t n ps => simp only [aop]; rw [pairs ps fun x hx => h x (by simpa using hx)]
  case makeFunc fn f c =>
    simp only [aop]
    rw [Array.map_congr_left (xs := f) fun x hx => h x (by simp [hx]), Array.map_congr_left (xs := c) fun x hx => h x (by simp [hx])]
  case slice t x lo hi mx => cases lo <;> cases hi <;> cases mx <;> simp_all [aop]
  case call c =>
    obtain ⟨callee, args, ts⟩ := c
    cases callee with
    | builtin b =>
      simp only [aop]
      rw [List.map_congr_left (l := args.toList) fun x hx => h x (by simp [Call.operands]; simpa using hx)]
    | value f => rfl
    | invoke r n => rfl
  all_goals (first | rfl | (simp_all [aop]; done))

theorem nop_congr {P : Program} {N : Nat} {o : Oper} (hs : ∀ cs b, o.op ≠ .select cs b) {F F' : AS → AH → Prop} {s s' : AS} {α : AH} (h : ∀ x ∈ o.op.operands, ev s x = ev s' x) (hn : NOp P N o F s α)
    (hF : ∀ v α', (aop P o.op s α = some (v, α') ∨ α' = α ∨ calmA o.op = false) → F (putA s o.dst v) α' → F' (putA s' o.dst v) α') : NOp P N o F' s' α := by
  obtain ⟨hfit, hn⟩ := hn
  refine ⟨hfit, ?_⟩
  have plain : (match aop P o.op s α with | some (v, α') => F (putA s o.dst v) α' | none => NPure P o s α (contK F s o.dst)) → (match aop P o.op s' α with | some (v, α') => F' (putA s' o.dst v) α' | none => NPure P o s' α (contK F' s' o.dst)) := fun hn => by
    rw [← aop_congr h]
    cases hop : aop P o.op s α with
    | some r =>
      obtain ⟨v, α'⟩ := r
      rw [hop] at hn
      exact hF v α' (.inl hop) hn
    | none =>
      rw [hop] at hn
      obtain ⟨v, h1, h2, h3, h4, h5⟩ := hn
      exact ⟨v, fun x hx => by rw [← h x hx]; exact h1 x hx, h2, h3, fun w => by rw [← execOp_congr o h3 h]; exact h4 w, hF v α (.inr (.inl rfl)) h5⟩
  obtain ⟨dst, op, type, pos, after, guard⟩ := o
  cases op with
  | call c =>
    obtain ⟨callee, args, ts⟩ := c
    cases callee with
    | builtin b => exact plain hn
    | value f =>
      simp only at hn ⊢
      have hf : ev s f = ev s' f := h f (by simp [Op.operands, Call.operands])
      have ha : args.toList.map (ev s) = args.toList.map (ev s') := List.map_congr_left fun x hx => h x (by simp [Op.operands, Call.operands]; exact .inr (by simpa using hx))
      rw [← hf, ← ha]
      split at hn
      · exact hn.mono fun v α' hk => hF v α' (.inr (.inr rfl)) hk
      · exact hn.elim
    | invoke r n =>
      simp only at hn ⊢
      have hf : ev s r = ev s' r := h r (by simp [Op.operands, Call.operands])
      have ha : args.toList.map (ev s) = args.toList.map (ev s') := List.map_congr_left fun x hx => h x (by simp [Op.operands, Call.operands]; exact .inr (by simpa using hx))
      rw [← hf, ← ha]
      obtain ⟨t, v, g, rv, h1, h2, h3⟩ := hn
      exact ⟨t, v, g, rv, h1, h2, h3.mono fun v α' hk => hF v α' (.inr (.inr rfl)) hk⟩
  | _ => exact plain hn

theorem ev_putA {s : AS} {d : Option Nat} {v : Value} {x : Operand} (h : ∀ e, d = some e → x ≠ .tmp e) : ev (putA s d v) x = ev s x := by
  cases d with
  | none => rfl
  | some e =>
    cases x with
    | tmp t => simp only [ev, putA, upd]; rw [if_neg fun he => h e rfl (by rw [he])]
    | _ => rfl
theorem looks_ev {ops : Array Oper} {o : Oper} {s : AS} {d : Option Nat} {v : Value} (h : ∀ e, d = some e → e ∉ o.looksAt ops) : ∀ x ∈ o.op.operands, ev (putA s d v) x = ev s x := fun x hx =>
  ev_putA fun e he hxe => h e he (by subst hxe; exact List.mem_append_left _ (List.mem_filterMap.2 ⟨.tmp e, by simpa using hx, rfl⟩))
theorem looks_guard {ops : Array Oper} {o : Oper} {s : AS} {d : Option Nat} {v : Value} (h : ∀ e, d = some e → e ∉ o.looksAt ops) : (guardOk ops o (putA s d v) ↔ guardOk ops o s) ∧ wantedA ops o (putA s d v) = wantedA ops o s := by
  cases d with
  | none => exact ⟨Iff.rfl, rfl⟩
  | some e =>
    have he := h e rfl
    unfold guardOk wantedA yieldedA
    cases hg : o.guard with
    | none => exact ⟨Iff.rfl, rfl⟩
    | some jw =>
      obtain ⟨j, want⟩ := jw
      cases ht : (ops[j]?).bind (·.dst) with
      | none => exact ⟨by simp [ht], by simp [ht]⟩
      | some t =>
        have hne : t ≠ e := fun hc => he (by subst hc; simp [Oper.looksAt, hg, ht])
        have : putA s (some e) v t = s t := if_neg hne
        constructor <;> simp only [ht, this]
theorem putA_comm {s : AS} {d e : Option Nat} {u v : Value} (h : ∀ x, d = some x → e ≠ some x) : putA (putA s d u) e v = putA (putA s e v) d u := by
  cases d with
  | none => rfl
  | some d =>
    cases e with
    | none => rfl
    | some e =>
      have hne : d ≠ e := fun hc => h d rfl (by rw [hc])
      funext i
      simp only [putA, upd]
      by_cases h1 : i = e
      · subst h1; rw [if_pos rfl, if_neg (Ne.symm hne), if_pos rfl]
      · rw [if_neg h1, if_neg h1]

def aft (o : Oper) : List Nat := (o.after.toList.filter (Region.binds .any)).map (·.on)
def dep (ops : Array Oper) : Nat → Nat → Nat → Bool
  | 0, _, _ => false
  | n + 1, j, i => match ops[j]? with
    | some o => (aft o).contains i || (aft o).any fun e => dep ops n e i
    | none => false
def Closed (ops : Array Oper) (l : Array Bool) : Prop := ∀ k o, ops[k]? = some o → l.getD k false = true → ∀ e ∈ aft o, l.getD e false = true

theorem mem_aft {o : Oper} {i : Nat} : i ∈ aft o ↔ ∃ e ∈ o.after, Region.binds .any e = true ∧ e.on = i := by
  unfold aft
  simp only [List.mem_map, List.mem_filter, Array.mem_toList_iff]
  exact ⟨fun ⟨e, h1, h2⟩ => ⟨e, h1.1, h1.2, h2⟩, fun ⟨e, h1, h2, h3⟩ => ⟨e, ⟨h1, h2⟩, h3⟩⟩
theorem ready_aft {ops : Array Oper} {l : Array Bool} {j : Nat} (h : j ∈ Region.ready .any ops l) : l.getD j true = false ∧ ∃ o, ops[j]? = some o ∧ ∀ e ∈ aft o, l.getD e false = true := by
  obtain ⟨h1, o, h2, h3⟩ := mem_ready.1 h
  refine ⟨h1, o, h2, fun e he => ?_⟩
  obtain ⟨x, hx1, hx2, rfl⟩ := mem_aft.1 he
  exact h3 x hx1 hx2
theorem listed_nodep {ops : Array Oper} {l : Array Bool} (hc : Closed ops l) {i : Nat} (hi : l.getD i false = false) : ∀ (n k : Nat), l.getD k false = true → dep ops n k i = false
  | 0, _, _ => rfl
  | n + 1, k, hk => by
    unfold dep
    cases ho : ops[k]? with
    | none => rfl
    | some o =>
      have h1 := hc k o ho hk
      simp only [Bool.or_eq_false_iff, List.any_eq_false]
      refine ⟨?_, fun e he => by rw [listed_nodep hc hi n e (h1 e he)]; simp⟩
      rw [Bool.eq_false_iff]
      intro hcont
      have := h1 i (by simpa using hcont)
      rw [hi] at this
      cases this
theorem ready_nodep {ops : Array Oper} {l : Array Bool} (hc : Closed ops l) {i j : Nat} (hi : l.getD i false = false) (hj : j ∈ Region.ready .any ops l) (n : Nat) : dep ops n j i = false := by
  cases n with
  | zero => rfl
  | succ n =>
    obtain ⟨_, o, ho, h1⟩ := ready_aft hj
    unfold dep
    rw [ho]
    simp only [Bool.or_eq_false_iff, List.any_eq_false]
    refine ⟨?_, fun e he => by rw [listed_nodep hc hi n e (h1 e he)]; simp⟩
    rw [Bool.eq_false_iff]
    intro hcont
    have := h1 i (by simpa using hcont)
    rw [hi] at this
    cases this
theorem unlisted_false {l : Array Bool} {i : Nat} (h : l.getD i true = false) : l.getD i false = false := by
  rcases Nat.lt_or_ge i l.size with h' | h'
  · simpa [h'] using h
  · simp [Array.getElem?_eq_none h'] at h
theorem Closed.set {ops : Array Oper} {l : Array Bool} (hc : Closed ops l) {j : Nat} (hj : j ∈ Region.ready .any ops l) : Closed ops (l.setIfInBounds j true) := fun k o ho hk e he => by
  by_cases hkj : k = j
  · subst hkj
    obtain ⟨_, o', ho', h1⟩ := ready_aft hj
    rw [ho] at ho'
    injection ho' with ho'
    subst ho'
    exact getD_set_true (h1 e he)
  · rw [getD_set_ne false (Ne.symm hkj)] at hk
    exact getD_set_true (hc k o ho hk e he)

/-- What operation i comes to here, memory as it was. -/
def ValOk (P : Program) (N : Nat) (ops : Array Oper) (o : Oper) (s : AS) (α : AH) (v : Value) : Prop :=
  guardOk ops o s ∧ fitsA N o.dst ∧ ((wantedA ops o s = true ∧ aop P o.op s α = some (v, α)) ∨ (wantedA ops o s = false ∧ v = undef))

theorem calm_same {P : Program} {op : Op} {s : AS} {α α' : AH} {v : Value} (hc : calmA op = true) (h : aop P op s α = some (v, α')) : α' = α := by
  cases op <;> simp only [calmA, quietA, Bool.false_eq_true] at hc <;> first
    | (simp only [aop, Option.some.injEq, Prod.mk.injEq] at h; exact h.2.symm)
    | exact (keep_inv h).2
    | skip
  rename_i c
  obtain ⟨callee, args, ts⟩ := c
  cases callee with
  | value f => simp [aop] at h
  | invoke r n => simp [aop] at h
  | builtin b =>
    simp only [aop] at h
    unfold abuiltin at h
    split at h
    · rename_i x hx
      cases hl : alen P ts x with
      | none => simp [hl] at h
      | some u => simp [hl] at h; exact h.2.symm
    · split at h
      · split at h
        · simp at h; exact h.2.symm
        · cases h
      · cases h
    · simp [quietA] at hc
    · simp [quietA] at hc
    · simp at h; exact h.2.symm
    · simp at h; exact h.2.symm
    · cases h

theorem memless_any {P : Program} {op : Op} {s : AS} {α β : AH} {v : Value} (hc : memless op = true) (h : aop P op s α = some (v, α)) : aop P op s β = some (v, β) := by
  cases op <;> simp only [memless, quietA, Bool.false_eq_true] at hc <;> first
    | (simp only [aop, Option.some.injEq, Prod.mk.injEq] at h ⊢; exact ⟨h.1, trivial⟩)
    | (have hk := (keep_inv h).1; simp only [aop]; rw [hk]; rfl)
    | skip
  rename_i c
  obtain ⟨callee, args, ts⟩ := c
  cases callee with
  | value f => simp [aop] at h
  | invoke r n => simp [aop] at h
  | builtin b =>
    simp only [aop] at h ⊢
    unfold abuiltin at h ⊢
    split at h
    · rename_i x hx
      cases hl : alen P ts x with
      | none => simp [hl] at h
      | some u => simp [hl] at h ⊢; exact h
    · simp [quietA] at hc
    · simp [quietA] at hc
    · simp [quietA] at hc
    · simp at h ⊢; exact h
    · simp at h ⊢; exact h
    · cases h

def Frees (ops : Array Oper) (oi : Oper) (i : Nat) (l : Array Bool) : Prop := ∀ j oj, ops[j]? = some oj → j ≠ i → l.getD j true = false → dep ops ops.size j i = false → oi.apart ops oj = true ∧ (calmA oj.op = true ∨ memless oi.op = true)

theorem nat_comm {P : Program} {N : Nat} {ops : Array Oper} {j : Nat} {oi oj : Oper} (hj : ops[j]? = some oj) (hsel : ∀ cs b, oj.op ≠ .select cs b) (hap : oi.apart ops oj = true) (hcm : calmA oj.op = true ∨ memless oi.op = true) {v : Value} {s : AS} {α : AH}
    {F F' : AS → AH → Prop} (hv : ValOk P N ops oi s α v) (hn : NAt P N ops j F (putA s oi.dst v) α) (hF : ∀ s' α', ValOk P N ops oi s' α' v → F (putA s' oi.dst v) α' → F' s' α') : NAt P N ops j F' s α := by
  obtain ⟨h1, h2, h3⟩ := Oper.apart_spec hap
  unfold NAt at hn ⊢
  rw [hj] at hn ⊢
  obtain ⟨hg, hn⟩ := hn
  have hl := looks_guard (ops := ops) (o := oj) (s := s) (v := v) h1
  have keepV : ∀ u α', (calmA oj.op = true → α' = α) → ValOk P N ops oi (putA s oj.dst u) α' v := fun u α' hα => by
    obtain ⟨g1, g2, g3⟩ := hv
    have hli := looks_guard (ops := ops) (o := oi) (s := s) (v := u) h3
    refine ⟨hli.1.2 g1, g2, ?_⟩
    rw [hli.2]
    rcases g3 with ⟨w1, w2⟩ | w
    · refine .inl ⟨w1, ?_⟩
      rw [aop_congr (looks_ev h3)]
      rcases hcm with hc | hm
      · rw [hα hc]; exact w2
      · exact memless_any hm w2
    · exact .inr w
  refine ⟨hl.1.1 hg, ?_⟩
  rw [hl.2] at hn
  split at hn
  · rename_i hw
    rw [if_pos hw]
    refine nop_congr hsel (looks_ev h1) hn fun u α' hk hf => ?_
    have hα : calmA oj.op = true → α' = α := fun hc => by
      rcases hk with hk | hk
      · exact calm_same hc hk
      · rcases hk with hk | hk
        · exact hk
        · rw [hk] at hc; cases hc
    refine hF _ α' (keepV u α' hα) ?_
    rw [← putA_comm h2]
    exact hf
  · rename_i hw
    rw [if_neg hw]
    refine ⟨hn.1, hF _ α (keepV undef α fun _ => rfl) ?_⟩
    rw [← putA_comm h2]
    exact hn.2
theorem nany_first {P : Program} {N : Nat} {ops : Array Oper} {K : AS → AH → Prop} (hsel : Region.noSelect ops = true) {i : Nat} {oi : Oper} (hi : ops[i]? = some oi) {v : Value} : ∀ (n : Nat) (l : Array Bool) (s : AS) (α : AH), Closed ops l → Frees ops oi i l →
    i ∈ Region.ready .any ops l → ValOk P N ops oi s α v → NAny P N ops K n (l.setIfInBounds i true) (putA s oi.dst v) α → NAny P N ops K (n + 1) l s α := by
  have self : ∀ (n : Nat) (l : Array Bool) (s : AS) (α : AH), ValOk P N ops oi s α v → NAny P N ops K n (l.setIfInBounds i true) (putA s oi.dst v) α → NAt P N ops i (NAny P N ops K n (l.setIfInBounds i true)) s α := fun n l s α hv H => by
    obtain ⟨g1, g2, g3⟩ := hv
    unfold NAt
    rw [hi]
    refine ⟨g1, ?_⟩
    rcases g3 with ⟨w1, w2⟩ | ⟨w1, w2⟩
    · rw [if_pos w1]
      refine ⟨g2, ?_⟩
      obtain ⟨dst, op, type, pos, after, guard⟩ := oi
      cases op with
      | call c =>
        obtain ⟨callee, args, ts⟩ := c
        cases callee with
        | builtin b => simp only at w2 ⊢; rw [w2]; exact H
        | value f => simp [aop] at w2
        | invoke r n => simp [aop] at w2
      | _ => simp only at w2 ⊢; rw [w2]; exact H
    · rw [if_neg (by rw [w1]; simp)]
      subst w2
      exact ⟨g2, H⟩
  intro n
  induction n with
  | zero =>
    intro l s α hc hf hr hv H
    refine ⟨fun h => (by rw [h] at hr; cases hr), fun j hj => ?_⟩
    by_cases hji : j = i
    · subst hji; exact self 0 l s α hv H
    · have := ready_mono hj hji
      rw [H.1] at this
      cases this
  | succ n ih =>
    intro l s α hc hf hr hv H
    refine ⟨fun h => (by rw [h] at hr; cases hr), fun j hj => ?_⟩
    by_cases hji : j = i
    · subst hji; exact self _ l s α hv H
    · have h1 := H.2 j (ready_mono hj hji)
      obtain ⟨hjun, oj, hoj, hall⟩ := ready_aft hj
      have hiun := (ready_aft hr).1
      have hnd := ready_nodep hc (unlisted_false hiun) hj ops.size
      obtain ⟨hap, hcm⟩ := hf j oj hoj hji hjun hnd
      refine nat_comm hoj (fun cs b => Region.noSelect_spec hsel j oj cs b hoj) hap hcm hv h1 fun s' α' hv' H' => ?_
      refine ih (l.setIfInBounds j true) s' α' (hc.set hj) ?_ (ready_mono hr (Ne.symm hji)) hv' ?_
      · intro k ok hk hki hun hd
        refine hf k ok hk hki ?_ hd
        by_cases hjk : j = k
        · subst hjk; exact hjun
        · rw [getD_set_ne true hjk] at hun; exact hun
      · rw [Array.setIfInBounds_comm _ _ hji]; exact H'

/- In what order operations are looked at: one that others can't disturb first ('take'); else all that may come next, one by one ('pick'). -/
mutual
inductive Tr where
  | done
  | take (i : Nat) (t : Tr)
  | pick (c : Ch)
inductive Ch where
  | nil
  | cons (i : Nat) (t : Tr) (c : Ch)
end
def idx : Ch → List Nat
  | .nil => []
  | .cons i _ c => i :: idx c
def closedB (ops : Array Oper) (l : Array Bool) : Bool := (List.range ops.size).all fun k => !(l.getD k false) || match ops[k]? with | some o => (aft o).all fun e => l.getD e false | none => true
def freeB (ops : Array Oper) (l : Array Bool) (i : Nat) : Bool :=
  match ops[i]? with
  | some oi => calmA oi.op && (List.range ops.size).all fun j => j == i || l.getD j true || dep ops ops.size j i || match ops[j]? with | some oj => oi.apart ops oj && (calmA oj.op || memless oi.op) | none => true
  | none => false
mutual
def trOk (ops : Array Oper) : Tr → Nat → Array Bool → Bool
  | .done, _, l => (Region.ready .any ops l).isEmpty
  | .take i t, n + 1, l => closedB ops l && freeB ops l i && (Region.ready .any ops l).contains i && trOk ops t n (l.setIfInBounds i true)
  | .pick c, n + 1, l => ((Region.ready .any ops l).all fun j => (idx c).contains j) && !(Region.ready .any ops l).isEmpty && chOk ops c n l
  | _, 0, _ => false
def chOk (ops : Array Oper) : Ch → Nat → Array Bool → Bool
  | .nil, _, _ => true
  | .cons i t c, n, l => trOk ops t n (l.setIfInBounds i true) && chOk ops c n l
end
theorem closedB_spec {ops : Array Oper} {l : Array Bool} (h : closedB ops l = true) : Closed ops l := fun k o ho hk e he => by
  simp only [closedB, List.all_eq_true, List.mem_range] at h
  have h1 := h k (Array.getElem?_eq_some_iff.1 ho).1
  rw [hk, ho] at h1
  simp only [Bool.not_true, Bool.false_or, List.all_eq_true] at h1
  exact h1 e he
theorem freeB_spec {ops : Array Oper} {l : Array Bool} {i : Nat} {oi : Oper} (hi : ops[i]? = some oi) (h : freeB ops l i = true) : calmA oi.op = true ∧ Frees ops oi i l := by
  simp only [freeB, hi, Bool.and_eq_true, List.all_eq_true, List.mem_range] at h
  refine ⟨h.1, fun j oj hj hne hun hnd => ?_⟩
  have h1 := h.2 j (Array.getElem?_eq_some_iff.1 hj).1
  rw [hj] at h1
  simp only [Bool.or_eq_true, beq_iff_eq, hne, false_or, hun, hnd, Bool.false_eq_true, Bool.and_eq_true] at h1
  exact h1

/-- What operation i comes to, looked at first. -/
def NTake (P : Program) (N : Nat) (ops : Array Oper) (i : Nat) (F : AS → AH → Prop) (s : AS) (α : AH) : Prop :=
  match ops[i]? with
  | some o => guardOk ops o s ∧ fitsA N o.dst ∧ if wantedA ops o s = true then (match aop P o.op s α with | some (v, _) => F (putA s o.dst v) α | none => False) else F (putA s o.dst undef) α
  | none => False
mutual
def NTr (P : Program) (N : Nat) (ops : Array Oper) (K : AS → AH → Prop) : Tr → AS → AH → Prop
  | .done, s, α => K s α
  | .take i t, s, α => NTake P N ops i (NTr P N ops K t) s α
  | .pick c, s, α => NCh P N ops K c s α
def NCh (P : Program) (N : Nat) (ops : Array Oper) (K : AS → AH → Prop) : Ch → AS → AH → Prop
  | .nil, _, _ => True
  | .cons i t c, s, α => NAt P N ops i (NTr P N ops K t) s α ∧ NCh P N ops K c s α
end

theorem nat_mono {P : Program} {N : Nat} {ops : Array Oper} (hsel : Region.noSelect ops = true) {i : Nat} {F F' : AS → AH → Prop} {s : AS} {α : AH} (h : NAt P N ops i F s α) (hF : ∀ s α, F s α → F' s α) : NAt P N ops i F' s α := by
  unfold NAt at h ⊢
  cases ho : ops[i]? with
  | none => rw [ho] at h; exact h
  | some o =>
    rw [ho] at h
    obtain ⟨hg, h⟩ := h
    refine ⟨hg, ?_⟩
    split at h
    · rename_i hw; rw [if_pos hw]; exact nop_congr (fun cs b => Region.noSelect_spec hsel i o cs b ho) (fun _ _ => rfl) h fun v α' _ hk => hF _ _ hk
    · rename_i hw; rw [if_neg hw]; exact ⟨h.1, hF _ _ h.2⟩

theorem nch_mem {P : Program} {N : Nat} {ops : Array Oper} {K : AS → AH → Prop} {s : AS} {α : AH} {n : Nat} {l : Array Bool} : ∀ (c : Ch), chOk ops c n l = true → NCh P N ops K c s α → ∀ i ∈ idx c, ∃ t : Tr, SizeOf.sizeOf t < SizeOf.sizeOf c ∧ trOk ops t n (l.setIfInBounds i true) = true ∧ NAt P N ops i (NTr P N ops K t) s α
  | .nil, _, _, i, hi => by simp [idx] at hi
  | .cons j t c, hok, hn, i, hi => by
    simp only [chOk, Bool.and_eq_true] at hok
    simp only [NCh] at hn
    simp only [idx, List.mem_cons] at hi
    rcases hi with rfl | hi
    · exact ⟨t, by simp; omega, hok.1, hn.1⟩
    · obtain ⟨t', h1, h2⟩ := nch_mem c hok.2 hn.2 i hi
      exact ⟨t', by simp; omega, h2⟩

theorem nany_done {P : Program} {N : Nat} {ops : Array Oper} {K : AS → AH → Prop} {l : Array Bool} {s : AS} {α : AH} (hr : Region.ready .any ops l = []) (h : K s α) : ∀ n, NAny P N ops K n l s α
  | 0 => ⟨hr, h⟩
  | _ + 1 => ⟨fun _ => h, by rw [hr]; simp⟩

theorem ntr_sound {P : Program} {N : Nat} {ops : Array Oper} {K : AS → AH → Prop} (hsel : Region.noSelect ops = true) (t : Tr) (n : Nat) (l : Array Bool) (s : AS) (α : AH) (hok : trOk ops t n l = true) (hn : NTr P N ops K t s α) : NAny P N ops K n l s α := by
  match t, n, hok, hn with
  | .done, n, hok, hn =>
    simp only [trOk, List.isEmpty_iff] at hok
    simp only [NTr] at hn
    exact nany_done hok hn n
  | .take i t, n + 1, hok, hn =>
    simp only [trOk, Bool.and_eq_true] at hok
    obtain ⟨⟨⟨h1, h2⟩, h3⟩, h4⟩ := hok
    simp only [NTr, NTake] at hn
    cases ho : ops[i]? with
    | none => rw [ho] at hn; exact hn.elim
    | some o =>
      rw [ho] at hn
      obtain ⟨g1, g2, g3⟩ := hn
      obtain ⟨hcalm, hfree⟩ := freeB_spec ho h2
      split at g3
      · rename_i hw
        cases hop : aop P o.op s α with
        | none => rw [hop] at g3; exact g3.elim
        | some r =>
          obtain ⟨v, α'⟩ := r
          rw [hop] at g3
          obtain rfl := calm_same hcalm hop
          exact nany_first hsel ho n l s α' (closedB_spec h1) hfree (by simpa using h3) ⟨g1, g2, .inl ⟨hw, hop⟩⟩ (ntr_sound hsel t n _ _ _ h4 g3)
      · rename_i hw
        exact nany_first hsel ho n l s α (closedB_spec h1) hfree (by simpa using h3) ⟨g1, g2, .inr ⟨by simpa using hw, rfl⟩⟩ (ntr_sound hsel t n _ _ _ h4 g3)
  | .pick c, n + 1, hok, hn =>
    simp only [trOk, Bool.and_eq_true, List.all_eq_true, List.contains_iff_mem] at hok
    obtain ⟨⟨h1, h2⟩, h3⟩ := hok
    simp only [NTr] at hn
    refine ⟨fun h0 => by rw [h0] at h2; simp at h2, fun i hi => ?_⟩
    obtain ⟨t, ht, ht1, ht2⟩ := nch_mem c h3 hn i (h1 i hi)
    exact nat_mono hsel ht2 fun s' α' hh => ntr_sound hsel t n _ s' α' ht1 hh
termination_by SizeOf.sizeOf t

def trCheck (ops : Array Oper) (t : Tr) : Bool := Region.noSelect ops && trOk ops t ops.size (Array.replicate ops.size false)

theorem nw_draw {P : Program} {N : Nat} {Q : Exit → AS → AH → Prop} {s : AS} {α : AH} {id : Nat} {l : List Oper} (t : Tr) (hm : P.follows .mixedOrders = true) (hok : trCheck l.toArray t = true)
    (h : ∀ K : AS → AH → Prop, (∀ s α, Q .normal s α → K s α) → NTr P N l.toArray K t s α) : NW P N (.region id l.toArray true) Q s α := fun G m0 m a w h1 h2 h3 => by
  simp only [trCheck, Bool.and_eq_true] at hok
  exact wp_region_any hm (nany_sound (Q := Q) (fun _ _ h => h) _ _ m α _ s a h1 (h2.drew _) h3 (ntr_sound hok.1 t _ _ s α hok.2 (h _ fun _ _ h => h)))

/-! ### a tree in two pieces -/
mutual
def graft (u : Tr) : Tr → Tr
  | .done => u
  | .take i t => .take i (graft u t)
  | .pick c => .pick (graftC u c)
def graftC (u : Tr) : Ch → Ch
  | .nil => .nil
  | .cons i t c => .cons i (graft u t) (graftC u c)
end
mutual
theorem ntr_graft {P : Program} {N : Nat} {ops : Array Oper} {K J : AS → AH → Prop} (hsel : Region.noSelect ops = true) {u : Tr} (hu : ∀ s α, J s α → NTr P N ops K u s α) : ∀ (t : Tr) (s : AS) (α : AH), NTr P N ops J t s α → NTr P N ops K (graft u t) s α
  | .done, s, α, h => by simp only [NTr] at h; simp only [graft]; exact hu s α h
  | .take i t, s, α, h => by
    simp only [NTr, graft, NTake] at h ⊢
    cases ho : ops[i]? with
    | none => rw [ho] at h; exact h
    | some o =>
      rw [ho] at h
      refine ⟨h.1, h.2.1, ?_⟩
      have h3 := h.2.2
      split at h3
      · rename_i hw
        rw [if_pos hw]
        cases hop : aop P o.op s α with
        | none => rw [hop] at h3; exact h3
        | some r => rw [hop] at h3; exact ntr_graft hsel hu t _ _ h3
      · rename_i hw
        rw [if_neg hw]
        exact ntr_graft hsel hu t _ _ h3
  | .pick c, s, α, h => by simp only [NTr, graft] at h ⊢; exact nch_graft hsel hu c s α h
theorem nch_graft {P : Program} {N : Nat} {ops : Array Oper} {K J : AS → AH → Prop} (hsel : Region.noSelect ops = true) {u : Tr} (hu : ∀ s α, J s α → NTr P N ops K u s α) : ∀ (c : Ch) (s : AS) (α : AH), NCh P N ops J c s α → NCh P N ops K (graftC u c) s α
  | .nil, s, α, h => by simp only [graftC, NCh]
  | .cons i t c, s, α, h => by
    simp only [NCh, graftC] at h ⊢
    exact ⟨nat_mono hsel h.1 fun s' α' hh => ntr_graft hsel hu t s' α' hh, nch_graft hsel hu c s α h.2⟩
end
end Go.Lay
