/- The layer, part 7: the calculus over code and calls, and that it is sound. -/
import Derived.Test.YtggkeldedennfaaLf
set_option linter.unusedVariables false
set_option linter.unusedSimpArgs false
namespace Go.Lay
open Go Go.RowKit

def enters (P : Program) (f : FuncId) : Bool :=
  match P.funcs[f]? with
  | some fn => fn.name != "runtime.NumGoroutine" && fn.body.isSome
  | none => false

def NCalls (P : Program) (f : FuncId) (args : List Value) (α : AH) (Q : Value → AH → Prop) : Prop :=
  enters P f = true ∧ ∀ (G : World) (m : AM) (w : World) (args' : List Value), Rel P G m α w → VRL m args args' →
    Calls P f args'.toArray w fun e w' => ∃ v', e = .returned v' ∧ ∃ m' v α', m.le m' ∧ Rel P G m' α' w' ∧ VR m' v v' ∧ Q v α'

theorem NCalls.mono {P : Program} {f : FuncId} {args : List Value} {α : AH} {Q Q' : Value → AH → Prop} (h : NCalls P f args α Q) (hq : ∀ v α', Q v α' → Q' v α') : NCalls P f args α Q' :=
  ⟨h.1, fun G m w args' h1 h2 => (h.2 G m w args' h1 h2).mono fun e w' ⟨v', he, m', v, α', a, b, c, d⟩ => ⟨v', he, m', v, α', a, b, c, hq v α' d⟩⟩

def putA (s : AS) (d : Option Nat) (v : Value) : AS := match d with | some d => upd s d v | none => s
@[simp] theorem putA_some (s : AS) (d : Nat) (v : Value) : putA s (some d) v = upd s d v := rfl
@[simp] theorem putA_none (s : AS) (v : Value) : putA s none v = s := rfl
def fitsA (N : Nat) : Option Nat → Prop
  | some d => d < N
  | none => True
theorem SR.putA {m : AM} {N : Nat} {s : AS} {a : Act} (h : SR m N s a) {d : Option Nat} (hd : fitsA N d) {v v' : Value} (hv : VR m v v') : SR m N (Go.Lay.putA s d v) (a.put d v') := by
  cases d with
  | none => exact h
  | some d => exact h.put hd hv

def yieldedA (ops : Array Oper) (s : AS) (j : Nat) : Option Bool :=
  match (ops[j]?).bind (·.dst) with
  | some t => match s t with
    | .bool b => some b
    | _ => none
  | none => none
def wantedA (ops : Array Oper) (o : Oper) (s : AS) : Bool :=
  match o.guard with
  | none => true
  | some (j, want) => yieldedA ops s j == some want

theorem yielded_eq {m : AM} {N : Nat} {s : AS} {a : Act} (h : SR m N s a) (ops : Array Oper) (j : Nat) (hj : ∀ t, (ops[j]?).bind (·.dst) = some t → s t ≠ junk) : yielded ops a.tmps j = yieldedA ops s j := by
  unfold yielded yieldedA
  cases hd : (ops[j]?).bind (·.dst) with
  | none => rfl
  | some t =>
    have hv := h.t t
    have hne := hj t hd
    simp only [Option.bind_some]
    cases ht : a.tmps[t]? with
    | none =>
      rw [ht] at hv
      simp only [Option.getD_none] at hv
      generalize s t = x at hv hne
      cases hv with
      | jk => exact absurd rfl hne
      | fl h => rfl
      | tuple => rfl
    | some v =>
      rw [ht] at hv
      simp only [Option.getD_some] at hv
      generalize s t = x at hv hne
      cases hv with
      | jk => exact absurd rfl hne
      | fl h => cases v <;> rfl
      | _ => rfl

/-- A call in an operation: where the walk goes on. -/
def contK (F : AS → AH → Prop) (s : AS) (d : Option Nat) : Value → AH → Prop := fun v α => F (putA s d v) α
def methodFuel (P : Program) : Nat := P.types.size + Made.depth
def NPure (P : Program) (o : Oper) (s : AS) (α : AH) (K : Value → AH → Prop) : Prop :=
  ∃ v, (∀ x ∈ o.op.operands, flatD (ev s x) = true) ∧ flatD v = true ∧ (∀ cs b, o.op ≠ .select cs b) ∧ (∀ w, (execOp (ev s) o).run P w = .ok (.value v) w) ∧ K v α
def NInvoke (P : Program) (r : Value) (name : String) (args : List Value) (α : AH) (K : Value → AH → Prop) : Prop :=
  ∃ t v g rv, r = .iface t v ∧ (∀ (G : World) (m : AM) (w : World) (v' : Value), Rel P G m α w → VR m v v' → ∃ rv', (method (methodFuel P) t v' name).run P w = .ok (g, rv') w ∧ VR m rv rv') ∧ NCalls P g (rv :: args) α K

def NOp (P : Program) (N : Nat) (o : Oper) (F : AS → AH → Prop) (s : AS) (α : AH) : Prop :=
  fitsA N o.dst ∧
  match o.op with
  | .call ⟨.value f, args, _⟩ => match ev s f with
    | .func (.func g) first captured => NCalls P g (first.toList ++ args.toList.map (ev s) ++ captured.toList) α (contK F s o.dst)
    | _ => False
  | .call ⟨.invoke r name, args, _⟩ => NInvoke P (ev s r) name (args.toList.map (ev s)) α (contK F s o.dst)
  | op => match aop P op s α with
    | some (v, α') => F (putA s o.dst v) α'
    | none => NPure P o s α (contK F s o.dst)

/-- which guards are asked of what is told -/
def guardOk (ops : Array Oper) (o : Oper) (s : AS) : Prop :=
  match o.guard with
  | none => True
  | some (j, _) => match (ops[j]?).bind (·.dst) with
    | some t => s t ≠ junk
    | none => True

def NOps (P : Program) (N : Nat) (ops : Array Oper) (K : AS → AH → Prop) : List Oper → AS → AH → Prop
  | [], s, α => K s α
  | o :: rest, s, α => guardOk ops o s ∧ if wantedA ops o s = true then NOp P N o (NOps P N ops K rest) s α else fitsA N o.dst ∧ NOps P N ops K rest (putA s o.dst undef) α

def calm : Exit → Bool
  | .panic _ | .outgrown => false
  | _ => true
def Lift (P : Program) (G : World) (m0 : AM) (N : Nat) (Q : Exit → AS → AH → Prop) : Exit → Act → World → Prop :=
  fun e a w => calm e = true ∧ ∃ m s α, m0.le m ∧ Rel P G m α w ∧ SR m N s a ∧ Q e s α

def NW (P : Program) (N : Nat) (c : Code) (Q : Exit → AS → AH → Prop) (s : AS) (α : AH) : Prop :=
  ∀ (G : World) (m0 m : AM) (a : Act) (w : World), m0.le m → Rel P G m α w → SR m N s a → c.wp P (Lift P G m0 N Q) a w

theorem callFunc_run {P : Program} {f : FuncId} (h : enters P f = true) (args : Array Value) (w : World) : (callFunc f args).run P w = .ok (.enter f args) w := by
  unfold enters at h
  split at h
  · rename_i fn hf
    simp only [Bool.and_eq_true] at h
    have hn : (fn.name == "runtime.NumGoroutine") = false := by simpa using h.1
    have hb : fn.body.isNone = false := by cases hb : fn.body <;> simp_all
    have hp : program.run P w = .ok P w := rfl
    simp only [callFunc, Sem.run_bind, hp, Result.andThen_ok, hf, hn, hb, Bool.false_eq_true, if_false]
    rfl
  · cases h

theorem callA_sound {P : Program} {G : World} {m m0 : AM} {α : AH} {w : World} (hm : m0.le m) (h : Rel P G m α w) {N : Nat} {s : AS} {a : Act} (hs : SR m N s a) {g : FuncId} {args args' : List Value} (ha : VRL m args args') {d : Option Nat} (hd : fitsA N d)
    {F : AS → AH → Prop} {Q : Exit → AS → AH → Prop} {next : Act → World → Prop} {o : Oper} (ho : o.dst = d) (hc : NCalls P g args α (contK F s d)) (hrun : (execOp a.eval o).run P w = .ok (.enter g args'.toArray) w)
    (hK : ∀ m' s' α' a' w', m0.le m' → Rel P G m' α' w' → SR m' N s' a' → F s' α' → next a' w') : o.wp P a w next (Lift P G m0 N Q) := by
  subst ho
  unfold Oper.wp
  rw [hrun]
  refine (hc.2 G m w args' h ha).mono fun e w' ⟨v', he, m', v, α', a1, a2, a3, a4⟩ => ?_
  subst he
  exact hK m' _ α' _ w' (hm.trans a1) a2 ((hs.mono a1).putA hd a3) a4

theorem list_ev {m : AM} {N : Nat} {s : AS} {a : Act} (hs : SR m N s a) (args : Array Operand) : VRL m (args.toList.map (ev s)) (args.map a.eval).toList := by
  refine ⟨by simp, fun i x hx => ?_⟩
  simp only [List.getElem?_map, Option.map_eq_some_iff] at hx
  obtain ⟨p, hp, rfl⟩ := hx
  exact ⟨a.eval p, by rw [Array.toList_map, List.getElem?_map, hp]; rfl, hs.ev p⟩

theorem nop_sound {P : Program} {G : World} {m m0 : AM} {α : AH} {w : World} (hm : m0.le m) (h : Rel P G m α w) {N : Nat} {s : AS} {a : Act} (hs : SR m N s a) {o : Oper} {F : AS → AH → Prop} {Q : Exit → AS → AH → Prop} {next : Act → World → Prop}
    (hn : NOp P N o F s α) (hK : ∀ m' s' α' a' w', m0.le m' → Rel P G m' α' w' → SR m' N s' a' → F s' α' → next a' w') : o.wp P a w next (Lift P G m0 N Q) := by
  obtain ⟨hfit, hn⟩ := hn
  have plain : (match aop P o.op s α with | some (v, α') => F (Go.Lay.putA s o.dst v) α' | none => NPure P o s α (contK F s o.dst)) → o.wp P a w next (Lift P G m0 N Q) := fun hn => by
    cases hop : aop P o.op s α with
    | some r =>
      obtain ⟨v, α'⟩ := r
      rw [hop] at hn
      obtain ⟨m', r', w', h1, h2, h3, h4⟩ := op_sound h hs hop
      unfold Oper.wp
      rcases h1 with h1 | ⟨h1, rfl⟩
      · rw [h1]; exact hK m' _ α' _ w' (hm.trans h2) h3 ((hs.mono h2).putA hfit h4) hn
      · rw [h1]; exact hK m' _ α' _ w' (hm.trans h2) h3 ((hs.mono h2).putA hfit h4) hn
    | none =>
      rw [hop] at hn
      obtain ⟨v, h1, h2, h3, h4, h5⟩ := hn
      have he : execOp a.eval o = execOp (ev s) o := execOp_congr o h3 fun x hx => (hs.ev x).eq_flatD (h1 x hx)
      unfold Oper.wp
      rw [he, h4 w]
      exact hK m _ α _ w hm h (hs.putA hfit (VR.flatD h2)) h5
  obtain ⟨dst, op, type, pos, after, guard⟩ := o
  cases op with
  | call c =>
    obtain ⟨callee, args, ts⟩ := c
    cases callee with
    | builtin b => exact plain hn
    | value f =>
      simp only at hn
      have hf := hs.ev f
      split at hn
      · rename_i g first captured he
        rw [he] at hf
        have : ∃ first' captured', a.eval f = .func (.func g) first' captured' ∧ VRL m first.toList first'.toList ∧ VRL m captured.toList captured'.toList := by
          generalize a.eval f = x at hf
          cases hf with
          | fl hf =>
            simp [Go.Lay.flat] at hf
            obtain ⟨rfl, rfl⟩ := hf
            exact ⟨#[], #[], rfl, VRL.nil m, VRL.nil m⟩
          | func h1 h2 h3 h4 => exact ⟨_, _, rfl, VRL.of_array h1 h2, VRL.of_array h3 h4⟩
        obtain ⟨first', captured', e1, v1, v2⟩ := this
        refine callA_sound hm h hs ((v1.append (list_ev hs args)).append v2) hfit rfl hn ?_ hK
        have : (first' ++ args.map a.eval ++ captured') = (first'.toList ++ (args.map a.eval).toList ++ captured'.toList).toArray := by apply Array.ext'; simp
        simp only [execOp, resolve, e1, Deferred.ofValue, Sem.run_bind, Sem.run_pure, Result.andThen_ok, invoke]
        rw [this]
        exact callFunc_run hn.1 _ w
      · exact hn.elim
    | invoke r name =>
      obtain ⟨t, v, g, rv, hr, hmeth, hc⟩ := hn
      have hrv := hs.ev r
      rw [hr] at hrv
      have : ∃ v', a.eval r = .iface t v' ∧ VR m v v' := by
        generalize a.eval r = x at hrv
        cases hrv with
        | fl hf => simp [Go.Lay.flat] at hf
        | iface h => exact ⟨_, rfl, h⟩
      obtain ⟨v', e1, hv⟩ := this
      obtain ⟨rv', h1, h2⟩ := hmeth G m w v' h hv
      refine callA_sound hm h hs (VRL.cons h2 (list_ev hs args)) hfit rfl hc ?_ hK
      have : (#[rv'] ++ args.map a.eval) = (rv' :: (args.map a.eval).toList).toArray := by apply Array.ext'; simp
      simp only [execOp, resolve, e1, Sem.run_bind, Sem.run_pure, Result.andThen_ok, invoke]
      have e2 : (#[Value.iface t v'] ++ args.map a.eval)[0]? = some (.iface t v') := by rw [Array.getElem?_append_left (by simp)]; rfl
      have e3 : (#[Value.iface t v'] ++ args.map a.eval).extract 1 (#[Value.iface t v'] ++ args.map a.eval).size = args.map a.eval := by
        apply Array.ext'
        simp
        rw [List.take_of_length_le (by simp)]
      have hp : program.run P w = .ok P w := rfl
      simp only [e2, e3, callMethod, Sem.run_bind, hp, Result.andThen_ok]
      unfold methodFuel at h1
      rw [h1]
      simp only [Result.andThen_ok]
      rw [this]
      exact callFunc_run hc.1 _ w
  | _ => exact plain hn

theorem nops_sound {P : Program} {G : World} {m0 : AM} {N : Nat} {ops : Array Oper} {K : AS → AH → Prop} {Q : Exit → AS → AH → Prop} (hK : ∀ s α, K s α → Q .normal s α) :
    ∀ (l : List Oper) (m : AM) (α : AH) (w : World) (s : AS) (a : Act), m0.le m → Rel P G m α w → SR m N s a → NOps P N ops K l s α → wpList P ops (Lift P G m0 N Q) l a w
  | [], m, α, w, s, a, hm, h, hs, hn => ⟨rfl, m, s, α, hm, h, hs, hK s α hn⟩
  | o :: rest, m, α, w, s, a, hm, h, hs, hn => by
    obtain ⟨hg, hn⟩ := hn
    have hw : Region.wanted o (yielded ops a.tmps) = wantedA ops o s := by
      unfold Region.wanted wantedA
      cases ho : o.guard with
      | none => rfl
      | some jw =>
        obtain ⟨j, want⟩ := jw
        simp only
        rw [yielded_eq hs ops j (fun t ht => by simp only [guardOk, ho, ht] at hg; exact hg)]
    unfold wpList
    rw [hw]
    split at hn
    · rename_i hc
      rw [if_pos hc]
      exact .inl (nop_sound hm h hs hn fun m' s' α' a' w' b1 b2 b3 b4 => nops_sound hK rest m' α' w' s' a' b1 b2 b3 b4)
    · rename_i hc
      rw [if_neg hc]
      exact nops_sound hK rest m α w _ _ hm h (hs.putA hn.1 (VR.undef m)) hn.2

/-! ### code -/
section
variable {P : Program} {N : Nat} {Q : Exit → AS → AH → Prop} {s : AS} {α : AH}

def nthen (K : AS → AH → Prop) (Q : Exit → AS → AH → Prop) : Exit → AS → AH → Prop
  | .normal, s, α => K s α
  | e, s, α => Q e s α
def nblock (id : Nat) (Q : Exit → AS → AH → Prop) : Exit → AS → AH → Prop
  | .exit id', s, α => if id' = id then Q .normal s α else Q (.exit id') s α
  | e, s, α => Q e s α

theorem nw_skip (h : Q .normal s α) : NW P N .skip Q s α := fun G m0 m a w h1 h2 h3 => wp_skip ⟨rfl, m, s, α, h1, h2, h3, h⟩
theorem nw_exit {id : Nat} (h : Q (.exit id) s α) : NW P N (.exit id) Q s α := fun G m0 m a w h1 h2 h3 => wp_exit ⟨rfl, m, s, α, h1, h2, h3, h⟩
theorem nw_ret (h : Q .ret s α) : NW P N .ret Q s α := fun G m0 m a w h1 h2 h3 => wp_ret ⟨rfl, m, s, α, h1, h2, h3, h⟩
theorem nw_seq {x y : Code} (h : NW P N x (nthen (NW P N y Q) Q) s α) : NW P N (.seq x y) Q s α := fun G m0 m a w h1 h2 h3 =>
  wp_seq (wp_mono (h G m0 m a w h1 h2 h3) fun e a' w' ⟨b0, m', s', α', b1, b2, b3, b4⟩ => by
    cases e <;> first | exact b4 G m0 m' a' w' b1 b2 b3 | exact ⟨b0, m', s', α', b1, b2, b3, b4⟩)
theorem nw_cond {c : Operand} {x y : Code} {t : Bool} (hc : ev s c = .bool t) (h1 : t = true → NW P N x Q s α) (h2 : t = false → NW P N y Q s α) : NW P N (.cond c x y) Q s α := fun G m0 m a w b1 b2 b3 => by
  have hv := b3.ev c
  rw [hc] at hv
  refine wp_cond_split (hv.eq_flat rfl) (fun ht => h1 ht G m0 m a w b1 b2 b3) (fun ht => h2 ht G m0 m a w b1 b2 b3)
theorem nw_block {id : Nat} {c : Code} (h : NW P N c (nblock id Q) s α) : NW P N (.block id c) Q s α := fun G m0 m a w h1 h2 h3 =>
  wp_block (wp_mono (h G m0 m a w h1 h2 h3) fun e a' w' ⟨b0, m', s', α', b1, b2, b3, b4⟩ => by
    cases e with
    | exit i =>
      simp only [nblock] at b4
      simp only [Exit.inBlock]
      split at b4
      · rename_i hi; rw [if_pos hi]; exact ⟨rfl, m', s', α', b1, b2, b3, b4⟩
      · rename_i hi; rw [if_neg hi]; exact ⟨b0, m', s', α', b1, b2, b3, b4⟩
    | _ => exact ⟨b0, m', s', α', b1, b2, b3, b4⟩)
/-- A loop: what holds at the head of each round, with a number that goes down. -/
theorem nw_loop {c : Code} (I : Nat → AS → AH → Prop) (n : Nat) (h0 : I n s α) (h : ∀ n s α, I n s α → NW P N c (nthen (fun s' α' => ∃ n', n' < n ∧ I n' s' α') Q) s α) : NW P N (.loop c) Q s α := fun G m0 m a w h1 h2 h3 =>
  wp_loop_ghost (fun n a w => ∃ m s α, m0.le m ∧ Rel P G m α w ∧ SR m N s a ∧ I n s α) n ⟨m, s, α, h1, h2, h3, h0⟩ fun n a w ⟨m, s, α, b1, b2, b3, b4⟩ =>
    wp_mono (h n s α b4 G m0 m a w b1 b2 b3) fun e a' w' ⟨c0, m', s', α', c1, c2, c3, c4⟩ => by
      cases e <;> first | (obtain ⟨n', c5, c6⟩ := c4; exact ⟨n', c5, m', s', α', c1, c2, c3, c6⟩) | exact ⟨c0, m', s', α', c1, c2, c3, c4⟩
theorem nw_region {id : Nat} {l : List Oper} (h : ∀ K : AS → AH → Prop, (∀ s α, Q .normal s α → K s α) → NOps P N l.toArray K l s α) : NW P N (.region id l.toArray false) Q s α := fun G m0 m a w h1 h2 h3 =>
  wp_region_lit (nops_sound (Q := Q) (fun _ _ h => h) l m α w s a h1 h2 h3 (h _ fun _ _ h => h))
theorem nw_mono {c : Code} {Q' : Exit → AS → AH → Prop} (h : NW P N c Q' s α) (hq : ∀ e s α, Q' e s α → Q e s α) : NW P N c Q s α := fun G m0 m a w h1 h2 h3 =>
  wp_mono (h G m0 m a w h1 h2 h3) fun e a' w' ⟨b0, m', s', α', b1, b2, b3, b4⟩ => ⟨b0, m', s', α', b1, b2, b3, hq _ _ _ b4⟩
end

/-! ### functions -/
def initS (args : List Value) : AS := fun i => (args[i]?).getD undef
def aresult (P : Program) (s : AS) (α : AH) : ResultVar → Option Value
  | .tmp t => some (s t)
  | .cell a t => aload P t (s a) α
def aresults (P : Program) (rs : List ResultVar) (s : AS) (α : AH) : Option Value :=
  match rs with
  | [r] => aresult P s α r
  | rs => (rs.mapM (aresult P s α)).map fun vs => .tuple vs.toArray
def bodyQ (P : Program) (rs : List ResultVar) (Q : Value → AH → Prop) : Exit → AS → AH → Prop
  | .normal, s, α | .ret, s, α => ∃ v, aresults P rs s α = some v ∧ Q v α
  | _, _, _ => False

theorem result_sound {P : Program} {G : World} {m : AM} {α : AH} {w : World} (h : Rel P G m α w) {N : Nat} {s : AS} {a : Act} (hs : SR m N s a) {r : ResultVar} {v : Value} (hl : aresult P s α r = some v) :
    ∃ v', ((match r with | .tmp t => pure (a.tmps.getD t undef) | .cell x t => do loadVar t (← asAddr (a.tmps.getD x undef))) : Sem Value).run P w = .ok v' w ∧ VR m v v' := by
  cases r with
  | tmp t =>
    simp only [aresult, Option.some.injEq] at hl
    subst hl
    exact ⟨_, rfl, by simpa using hs.t t⟩
  | cell x t =>
    simp only [aresult] at hl
    have hv : VR m (s x) (a.tmps.getD x undef) := by simpa using hs.t x
    obtain ⟨v', h1, h2⟩ := load_sound h hv hl
    refine ⟨v', ?_, h2⟩
    show ((do loadVar t (← asAddr (a.tmps.getD x undef))) : Sem Value).run P w = .ok v' w
    generalize a.tmps.getD x undef = p at h1
    cases p <;> simp only [Instr.loadAt, Instr.sureAddr] at h1 <;> first | (rename_i ad; cases ad <;> first | (simp at h1; done) | (simp only [asAddr]; exact h1)) | (simp at h1; done)

theorem mapM_sound {P : Program} {G : World} {m : AM} {α : AH} {w : World} (h : Rel P G m α w) {N : Nat} {s : AS} {a : Act} (hs : SR m N s a) : ∀ (rs : List ResultVar) (vs : List Value), rs.mapM (aresult P s α) = some vs →
    ∃ vs', (rs.mapM fun r => ((match r with | .tmp t => pure (a.tmps.getD t undef) | .cell x t => do loadVar t (← asAddr (a.tmps.getD x undef))) : Sem Value)).run P w = .ok vs' w ∧ VRL m vs vs'
  | [], vs, hl => by simp at hl; subst hl; exact ⟨[], rfl, VRL.nil m⟩
  | r :: rs, vs, hl => by
    rw [List.mapM_cons] at hl
    cases hr : aresult P s α r with
    | none => simp [hr] at hl
    | some v =>
      cases hrs : rs.mapM (aresult P s α) with
      | none => simp [hr, hrs] at hl
      | some us =>
        simp [hr, hrs] at hl
        subst hl
        obtain ⟨v', h1, h2⟩ := result_sound h hs hr
        obtain ⟨us', h3, h4⟩ := mapM_sound h hs rs us hrs
        refine ⟨v' :: us', ?_, VRL.cons h2 h4⟩
        rw [List.mapM_cons, Sem.run_bind, h1, Result.andThen_ok, Sem.run_bind, h3, Result.andThen_ok]
        rfl

theorem results_sound {P : Program} {G : World} {m : AM} {α : AH} {w : World} (h : Rel P G m α w) {N : Nat} {s : AS} {a : Act} (hs : SR m N s a) {fn : Func} {v : Value} (hl : aresults P fn.results.toList s α = some v) :
    ∃ v', (results fn a.tmps).run P w = .ok v' w ∧ VR m v v' := by
  unfold results
  rw [Array.mapM_eq_mapM_toList, Sem.run_bind]
  have hmap : ∀ (vs : List Value), (fn.results.toList.mapM fun r => ((match r with | .tmp t => pure (a.tmps.getD t undef) | .cell x t => do loadVar t (← asAddr (a.tmps.getD x undef))) : Sem Value)).run P w = .ok vs w →
      (List.toArray <$> fn.results.toList.mapM fun r => ((match r with | .tmp t => pure (a.tmps.getD t undef) | .cell x t => do loadVar t (← asAddr (a.tmps.getD x undef))) : Sem Value)).run P w = .ok vs.toArray w := fun vs hv => by
    rw [map_eq_pure_bind, Sem.run_bind, hv]; rfl
  unfold aresults at hl
  split at hl
  · rename_i r hr
    obtain ⟨v', h1, h2⟩ := result_sound h hs hl
    refine ⟨v', ?_, h2⟩
    refine (congrArg (fun r => Result.andThen r (fun (vs : Array Value) w' => Sem.run P (pure (if h : vs.size = 1 then vs[0] else .tuple vs)) w')) (hmap [v'] (by rw [hr, List.mapM_cons, Sem.run_bind, h1]; rfl))).trans ?_
    rfl
  · rename_i hne
    cases hvs : fn.results.toList.mapM (aresult P s α) with
    | none => simp [hvs] at hl
    | some vs =>
      simp [hvs] at hl
      subst hl
      obtain ⟨vs', h1, h2⟩ := mapM_sound h hs _ vs hvs
      refine ⟨.tuple vs'.toArray, ?_, h2.tuple⟩
      refine (congrArg (fun r => Result.andThen r (fun (vs : Array Value) w' => Sem.run P (pure (if h : vs.size = 1 then vs[0] else .tuple vs)) w')) (hmap vs' h1)).trans ?_
      have hlen : vs'.toArray.size ≠ 1 := fun h1 => by
        have hl' : vs.length = fn.results.toList.length := by
          clear hne h1 h2 hmap
          generalize fn.results.toList = rs at hvs
          induction rs generalizing vs with
          | nil => simp at hvs; subst hvs; rfl
          | cons r rs ih =>
            rw [List.mapM_cons] at hvs
            cases hr : aresult P s α r with
            | none => simp [hr] at hvs
            | some v =>
              cases hrs : rs.mapM (aresult P s α) with
              | none => simp [hr, hrs] at hvs
              | some us => simp [hr, hrs] at hvs; subst hvs; simp [ih us hrs]
        have hl2 := h2.1
        have hl1 : vs'.length = 1 := by simpa using h1
        have : fn.results.toList.length = 1 := by omega
        match hrs : fn.results.toList, this with
        | [r], _ => exact hne r hrs
      simp only [Result.andThen_ok]
      rw [dif_neg hlen]
      rfl

theorem ncalls_of {P : Program} {f : FuncId} {fn : Func} {c : Code} {args : List Value} {α : AH} {Q : Value → AH → Prop} (he : enters P f = true) (hf : P.funcs[f]? = some fn) (hb : fn.body = some c) (hn : args.length ≤ fn.ntmps)
    (h : NW P fn.ntmps c (bodyQ P fn.results.toList Q) (initS args) α) : NCalls P f args α Q := by
  refine ⟨he, fun G m w args' hr ha => calls_of_wp hf hb ?_⟩
  have hs : SR m fn.ntmps (initS args) { tmps := args'.toArray ++ Array.replicate (fn.ntmps - args'.toArray.size) undef, defers := [] } := by
    have := ha.1
    refine ⟨by simp; omega, rfl, fun i => ?_⟩
    simp only [initS]
    have hv := ha.at i
    by_cases hi : i < args'.length
    · rw [Array.getElem?_append_left (by simpa using hi)]; simpa using hv
    · rw [List.getElem?_eq_none (by omega)] at hv ⊢
      have : (args'.toArray ++ Array.replicate (fn.ntmps - args'.toArray.size) undef)[i]?.getD undef = undef := by
        rw [Array.getElem?_append_right (by simpa using hi)]
        simp only [Array.getElem?_replicate]
        split <;> rfl
      rw [this]; exact VR.undef m
  refine wp_mono (h G m m _ w (.refl m) hr hs) fun e a' w' ⟨b0, m', s', α', b1, b2, b3, b4⟩ => ?_
  cases e with
  | normal =>
    obtain ⟨v, h1, h2⟩ := b4
    obtain ⟨v', h3, h4⟩ := results_sound b2 b3 h1
    exact ⟨b3.defers, v', h3, v', rfl, m', v, α', b1, b2, h4, h2⟩
  | ret =>
    obtain ⟨v, h1, h2⟩ := b4
    obtain ⟨v', h3, h4⟩ := results_sound b2 b3 h1
    exact ⟨b3.defers, v', h3, v', rfl, m', v, α', b1, b2, h4, h2⟩
  | _ => exact b4.elim

end Go.Lay
