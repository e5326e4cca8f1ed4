/- The layer, part 6: the table of operations, and that each is what the machine does. -/
import Derived.Test.YtggkeldedennfaaLe
set_option linter.unusedVariables false
set_option linter.unusedSimpArgs false
namespace Go.Lay
open Go Go.RowKit

def alen (P : Program) (ts : Array TypeId) (x : Value) : Option Value :=
  match ts[0]? with
  | some t => match P.underlying t, x with
    | some .string, .string s => some (.int .i64 (s.size : Int))
    | some (.slice _), .slice _ n _ => some (.int .i64 (n : Int))
    | _, _ => none
  | none => none
def abuiltin (P : Program) (b : Builtin) (ts : Array TypeId) (args : List Value) (α : AH) : Option (Value × AH) :=
  match b, args with
  | .len, [x] => (alen P ts x).map fun v => (v, α)
  | .cap, [.slice none 0 0] => match ts[0]? with
    | some t => match P.underlying t with
      | some (.slice _) => some (.int .i64 0, α)
      | _ => none
    | none => none
  | .append, [s, x] => aappend P ts s x α
  | .copy, [d, x] => acopy P ts d x α
  | .max, [.int k x, .int _ y] => some (.int k (if y > x then y else x), α)
  | .min, [.int k x, .int _ y] => some (.int k (if y < x then y else x), α)
  | _, _ => none
def apart (P : Program) (t : TypeId) (cs : Array Value) (off : Nat) : Option Value :=
  match aggA P t with
  | some false => cs[off]?
  | some true => match sizeA P t with
    | some n => if off + n ≤ cs.size then some (.agg (cs.extract off (off + n))) else none
    | none => none
  | none => none
def afield (P : Program) (t : TypeId) (x : Value) (f : Nat) : Option Value :=
  match P.underlying t, x with
  | some (.struct fs), .agg cs => match fs[f]? with
    | some fd => apart P fd.type cs fd.offset
    | none => none
  | _, _ => none
def aindex (P : Program) (t : TypeId) (x i : Value) : Option Value :=
  match i with
  | .int _ n => match P.underlying t, x with
    | some (.array len e), .agg cs => if 0 ≤ n ∧ n < (len : Int) then (sizeA P e).bind fun sz => apart P e cs (n.toNat * sz) else none
    | some .string, .string s => if 0 ≤ n then (s[n.toNat]?).map fun b => .int .u8 (b.toNat : Int) else none
    | _, _ => none
  | _ => none
def aextract (x : Value) (i : Nat) : Option Value :=
  match x with
  | .tuple vs => vs[i]?
  | _ => none
def anilCheck (x : Value) : Option Value :=
  match x with
  | .pointer (some _) => some x
  | .iface _ _ => some x
  | .func (.func _) _ _ => some x
  | _ => none
def aun (op : UnOp) (x : Value) : Option Value :=
  match op, x with
  | .not, .bool b => some (.bool (!b))
  | .neg, .int k n => some (.int k (k.wrap (0 - n)))
  | .xor, .int k n => some (.int k (k.wrap (BitVec.ofInt k.bits (if k.signed then -1 else k.max) ^^^ BitVec.ofInt k.bits n).toNat))
  | _, _ => none
def aconv (P : Program) (src dst : TypeId) (x : Value) : Option Value :=
  match P.underlying src, P.underlying dst, x with
  | some _, some (.int k), .int _ n => some (.int k (k.wrap n))
  | some .string, some .string, .string s => some (.string s)
  | _, _, _ => none
def aiface (P : Program) (t : TypeId) (x : Value) : Option Value :=
  match P.underlying t with
  | some (.interface _) => none
  | some _ => some (.iface t x)
  | none => none
def apick (c a b : Value) : Option Value :=
  match c with
  | .bool t => match a, b with
    | .bool x, .bool y => some (.bool (bif t then x else y))
    | a, b => some (if t = true then a else b)
  | _ => none

def keep (α : AH) (v : Option Value) : Option (Value × AH) := v.map fun v => (v, α)
@[simp] theorem keep_some (α : AH) (v : Value) : keep α (some v) = some (v, α) := rfl
@[simp] theorem keep_none (α : AH) : keep α none = none := rfl

def aop (P : Program) (op : Op) (s : AS) (α : AH) : Option (Value × AH) :=
  match op with
  | .move x | .assign x => some (ev s x, α)
  | .pick c a b => keep α (apick (ev s c) (ev s a) (ev s b))
  | .alloc e => aalloc P e α
  | .box e x => abox e (ev s x) α
  | .build t ps => keep α (abuild P t (ps.toList.map fun p => (p.1, ev s p.2)))
  | .buildSlice t n ps => abuildSlice P t n (ps.toList.map fun p => (p.1, ev s p.2)) α
  | .load t a => keep α (aload P t (ev s a) α)
  | .store t a x => (astore P t (ev s a) (ev s x) α).map fun α' => (undef, α')
  | .nilCheck x => keep α (anilCheck (ev s x))
  | .binOp op t x y _ => keep α (abin P op t (cstA x y) (ev s x) (ev s y))
  | .unOp op _ x => keep α (aun op (ev s x))
  | .convert src dst x => keep α (aconv P src dst (ev s x))
  | .makeInterface t x => keep α (aiface P t (ev s x))
  | .makeFunc fn f c => some (.func fn (f.map (ev s)) (c.map (ev s)), α)
  | .makeSlice t l c => amake P t (ev s l) (ev s c) α
  | .slice t x lo hi mx => keep α (aslice P t (ev s x) (lo.map (ev s)) (hi.map (ev s)) (mx.map (ev s)) α)
  | .fieldAddr t x f => keep α (afieldAddr P t (ev s x) f)
  | .field t x f => keep α (afield P t (ev s x) f)
  | .indexAddr t x i => keep α (aindexAddr P t (ev s x) (ev s i))
  | .index t x i => keep α (aindex P t (ev s x) (ev s i))
  | .extract x i => keep α (aextract (ev s x) i)
  | .call ⟨.builtin b, args, ts⟩ => abuiltin P b ts (args.toList.map (ev s)) α
  | _ => none

theorem VR.agg_inv {m : AM} {cs : Array Value} {v' : Value} (h : VR m (.agg cs) v') : ∃ cs', v' = .agg cs' ∧ VRL m cs.toList cs'.toList := by
  cases h with
  | fl h => simp [Go.Lay.flat] at h
  | agg hs h => exact ⟨_, rfl, VRL.of_array hs h⟩
theorem VR.tuple_inv {m : AM} {cs : Array Value} {v' : Value} (h : VR m (.tuple cs) v') : ∃ cs', v' = .tuple cs' ∧ VRL m cs.toList cs'.toList := by
  cases h with
  | fl h => simp [Go.Lay.flat] at h; subst h; exact ⟨#[], rfl, VRL.nil m⟩
  | tuple hs h => exact ⟨_, rfl, VRL.of_array hs h⟩

theorem part_sound {P : Program} {m : AM} {t : TypeId} {cs cs' : Array Value} {off : Nat} {r : Value} (h : VRL m cs.toList cs'.toList) (hl : apart P t cs off = some r) :
    ∃ r', (∀ w, (part t cs' off).run P w = .ok r' w) ∧ VR m r r' := by
  unfold apart at hl
  split at hl
  · rename_i ha
    obtain ⟨r', h1, h2⟩ := h.2 off r (by simpa using hl)
    exact ⟨r', fun w => by simp [part, run_aggA ha, show cs'[off]? = some r' by simpa using h1], h2⟩
  · rename_i ha
    split at hl
    · rename_i n hn
      split at hl
      · rename_i hfit
        injection hl with hl
        subst hl
        refine ⟨.agg (cs'.extract off (off + n)), fun w => by simp [part, run_aggA ha, run_sizeA hn], ?_⟩
        have e : ∀ c : Array Value, c.extract off (off + n) = ((c.toList.take (off + n)).drop off).toArray := fun c => by
          apply Array.ext'
          simp [List.drop_take]
        rw [e cs, e cs']
        exact ((h.take (off + n)).drop off).agg
      · cases hl
    · cases hl
  · cases hl

theorem field_sound {P : Program} {m : AM} {t : TypeId} {x x' r : Value} (hx : VR m x x') {f : Nat} (hl : afield P t x f = some r) :
    ∃ r', (∀ w, (Instr.field t x' f).run P w = .ok r' w) ∧ VR m r r' := by
  unfold afield at hl
  split at hl
  · rename_i fs cs hu
    obtain ⟨cs', rfl, hv⟩ := hx.agg_inv
    split at hl
    · rename_i fd hfd
      obtain ⟨r', h1, h2⟩ := part_sound hv hl
      exact ⟨r', fun w => by simp [Instr.field, run_underlying hu, hfd, asAgg, h1], h2⟩
    · cases hl
  · cases hl

theorem index_sound {P : Program} {m : AM} {t : TypeId} {x x' i i' r : Value} (hx : VR m x x') (hi : VR m i i') (hl : aindex P t x i = some r) :
    ∃ r', (∀ w, (Instr.index t x' i').run P w = .ok r' w) ∧ VR m r r' := by
  unfold aindex at hl
  split at hl
  · rename_i k n
    obtain rfl := hi.eq_flat rfl
    split at hl
    · rename_i len e cs hu
      obtain ⟨cs', rfl, hv⟩ := hx.agg_inv
      split at hl
      · rename_i hn
        cases hs : sizeA P e with
        | none => simp [hs] at hl
        | some sz =>
          simp only [hs, Option.bind_some] at hl
          obtain ⟨r', h1, h2⟩ := part_sound hv hl
          exact ⟨r', fun w => by simp [Instr.index, asIntOf, run_underlying hu, hn, run_sizeA hs, h1], h2⟩
      · cases hl
    · rename_i s hu
      obtain rfl := hx.eq_flat rfl
      split at hl
      · rename_i hn
        cases hb : s[n.toNat]? with
        | none => simp [hb] at hl
        | some b =>
          simp [hb] at hl
          subst hl
          exact ⟨_, fun w => by simp [Instr.index, asIntOf, run_underlying hu, hn, hb], .fl rfl⟩
      · cases hl
    · cases hl
  · cases hl

theorem pick_sound {m : AM} {c a b c' a' b' r : Value} (hc : VR m c c') (ha : VR m a a') (hb : VR m b b') (hl : apick c a b = some r) :
    ∃ t, c' = .bool t ∧ VR m r (if t = true then a' else b') := by
  unfold apick at hl
  split at hl
  · rename_i t
    obtain rfl := hc.eq_flat rfl
    refine ⟨t, rfl, ?_⟩
    split at hl
    · obtain rfl := ha.eq_flat rfl
      obtain rfl := hb.eq_flat rfl
      injection hl with hl
      subst hl
      cases t <;> exact .fl rfl
    · injection hl with hl
      subst hl
      cases t
      · exact hb
      · exact ha
  · cases hl

theorem keep_inv {α α' : AH} {v : Option Value} {r : Value} (h : keep α v = some (r, α')) : v = some r ∧ α' = α := by
  cases v with
  | none => cases h
  | some v => simp at h; exact ⟨by rw [h.1], h.2.symm⟩

theorem parts_rel {m : AM} {N : Nat} {s : AS} {a : Act} (h : SR m N s a) (ps : Array (Nat × Operand)) :
    (ps.toList.map fun p => (p.1, ev s p.2)).length = (ps.map fun p => (p.1, a.eval p.2)).toList.length ∧
    ∀ (i k : Nat) (x : Value), (ps.toList.map fun p => (p.1, ev s p.2))[i]? = some (k, x) → ∃ x', (ps.map fun p => (p.1, a.eval p.2)).toList[i]? = some (k, x') ∧ VR m x x' := by
  refine ⟨by simp, fun i k x hx => ?_⟩
  simp only [List.getElem?_map, Option.map_eq_some_iff] at hx
  obtain ⟨p, hp, he⟩ := hx
  obtain ⟨rfl, rfl⟩ := Prod.mk.inj he
  refine ⟨a.eval p.2, ?_, h.ev p.2⟩
  rw [Array.toList_map, List.getElem?_map, hp]; rfl

theorem opt_rel {m : AM} {N : Nat} {s : AS} {a : Act} (h : SR m N s a) (o : Option Operand) : (∀ v, o.map (ev s) = some v → ∃ v', o.map a.eval = some v' ∧ VR m v v') ∧ (o.map (ev s) = none → o.map a.eval = none) := by
  cases o with
  | none => exact ⟨(fun v h => by cases h), fun _ => rfl⟩
  | some x => exact ⟨fun v hv => by simp at hv; subst hv; exact ⟨_, rfl, h.ev x⟩, (fun h => by cases h)⟩

theorem arr_rel {m : AM} {N : Nat} {s : AS} {a : Act} (h : SR m N s a) (xs : Array Operand) : (xs.map (ev s)).size = (xs.map a.eval).size ∧ ∀ i : Nat, VR m ((xs.map (ev s))[i]?.getD undef) ((xs.map a.eval)[i]?.getD undef) := by
  refine ⟨by simp, fun i => ?_⟩
  rcases Nat.lt_or_ge i xs.size with hi | hi
  · simp [hi]; exact h.ev _
  · simp [hi]; exact VR.undef m

/-- Operations that look at no memory (but at how long the elements of a row are). -/
def quietA : Op → Bool
  | .move _ | .assign _ | .pick .. | .build .. | .nilCheck _ | .binOp .. | .unOp .. | .convert .. | .makeInterface .. | .makeFunc .. | .slice .. | .fieldAddr .. | .field .. | .indexAddr .. | .index .. | .extract .. => true
  | .call ⟨.builtin .len, _, _⟩ | .call ⟨.builtin .max, _, _⟩ | .call ⟨.builtin .min, _, _⟩ => true
  | _ => false

theorem one_rel {m : AM} {N : Nat} {s : AS} {a : Act} (hs : SR m N s a) (args : Array Operand) (x : Value) (hx : args.toList.map (ev s) = [x]) : ∃ x', args.toList.map a.eval = [x'] ∧ VR m x x' := by
  match h : args.toList, hx with
  | [y], hx => simp at hx; subst hx; exact ⟨_, rfl, hs.ev y⟩
theorem two_rel {m : AM} {N : Nat} {s : AS} {a : Act} (hs : SR m N s a) (args : Array Operand) (x y : Value) (hx : args.toList.map (ev s) = [x, y]) : ∃ x' y', args.toList.map a.eval = [x', y'] ∧ VR m x x' ∧ VR m y y' := by
  match h : args.toList, hx with
  | [p, q], hx => simp at hx; obtain ⟨rfl, rfl⟩ := hx; exact ⟨_, _, rfl, hs.ev p, hs.ev q⟩
theorem run_builtin {dst : Option Tmp} {b : Builtin} {args : Array Operand} {ts : Array TypeId} {type : TypeId} {pos : String} {after : Array Edge} {guard : Option (Nat × Bool)} {a : Act} (args' : List Value) (ha : args.toList.map a.eval = args') :
    (execOp a.eval ⟨dst, .call ⟨.builtin b, args, ts⟩, type, pos, after, guard⟩) = builtin b ts type (args.map fun | .const _ => true | _ => false) args'.toArray := by
  have : args.map a.eval = args'.toArray := by rw [← ha]; apply Array.ext'; simp
  simp only [execOp, resolve, this]
  rfl

theorem quiet_sound {P : Program} {G : World} {m : AM} {α α' : AH} {w : World} (h : Rel P G m α w) {N : Nat} {s : AS} {a : Act} (hs : SR m N s a) {o : Oper} {r : Value} (hq : quietA o.op = true) (hl : aop P o.op s α = some (r, α')) :
    α' = α ∧ ∃ r', (∀ w, (execOp a.eval o).run P w = .ok (.value r') w) ∧ VR m r r' := by
  obtain ⟨dst, op, type, pos, after, guard⟩ := o
  simp only at hl hq
  cases op <;> simp only [quietA, Bool.false_eq_true] at hq
  case move x => simp only [aop, Option.some.injEq, Prod.mk.injEq] at hl; obtain ⟨rfl, rfl⟩ := hl; exact ⟨rfl, _, fun w => rfl, hs.ev x⟩
  case assign x => simp only [aop, Option.some.injEq, Prod.mk.injEq] at hl; obtain ⟨rfl, rfl⟩ := hl; exact ⟨rfl, _, fun w => rfl, hs.ev x⟩
  case makeFunc fn f c =>
    simp only [aop, Option.some.injEq, Prod.mk.injEq] at hl
    obtain ⟨rfl, rfl⟩ := hl
    obtain ⟨f1, f2⟩ := arr_rel hs f
    obtain ⟨c1, c2⟩ := arr_rel hs c
    exact ⟨rfl, _, fun w => rfl, .func f1 f2 c1 c2⟩
  case call c =>
    obtain ⟨callee, args, ts⟩ := c
    cases callee with
    | value f => simp [aop] at hl
    | invoke r n => simp [aop] at hl
    | builtin b =>
      simp only [aop] at hl
      unfold abuiltin at hl
      split at hl
      · rename_i x hargs
        obtain ⟨x', e1, hv⟩ := one_rel hs args x hargs
        cases hlen : alen P ts x with
        | none => simp [hlen] at hl
        | some v =>
          simp [hlen] at hl
          obtain ⟨rfl, rfl⟩ := hl
          unfold alen at hlen
          split at hlen
          · rename_i t ht
            split at hlen
            · rename_i sx hu
              injection hlen with hlen
              subst hlen
              obtain rfl := hv.eq_flat rfl
              exact ⟨rfl, _, fun w => by rw [run_builtin _ e1]; simp [builtin, Builtin.len_, ht, run_underlying hu, goInt], .fl rfl⟩
            · rename_i e0 ad n c hu
              injection hlen with hlen
              subst hlen
              obtain ⟨ad', c', rfl⟩ : ∃ ad' c', x' = .slice ad' n c' := by cases hv with | fl h => exact ⟨_, _, rfl⟩ | sl => exact ⟨_, _, rfl⟩
              exact ⟨rfl, _, fun w => by rw [run_builtin _ e1]; simp [builtin, Builtin.len_, ht, run_underlying hu, goInt], .fl rfl⟩
            · cases hlen
          · cases hlen
      · simp [quietA] at hq
      · simp [quietA] at hq
      · simp [quietA] at hq
      · rename_i k i k' j hargs
        obtain ⟨x', y', e1, hv1, hv2⟩ := two_rel hs args _ _ hargs
        obtain rfl := hv1.eq_flat rfl
        obtain rfl := hv2.eq_flat rfl
        simp only [Option.some.injEq, Prod.mk.injEq] at hl
        obtain ⟨rfl, rfl⟩ := hl
        exact ⟨rfl, _, fun w => by rw [run_builtin _ e1]; simp [builtin, Builtin.max_, Builtin.max2], .fl rfl⟩
      · rename_i k i k' j hargs
        obtain ⟨x', y', e1, hv1, hv2⟩ := two_rel hs args _ _ hargs
        obtain rfl := hv1.eq_flat rfl
        obtain rfl := hv2.eq_flat rfl
        simp only [Option.some.injEq, Prod.mk.injEq] at hl
        obtain ⟨rfl, rfl⟩ := hl
        exact ⟨rfl, _, fun w => by rw [run_builtin _ e1]; simp [builtin, Builtin.min_, Builtin.min2], .fl rfl⟩
      · cases hl
  all_goals
    have hk := keep_inv hl
    clear hl
    obtain ⟨hl, rfl⟩ := hk
    refine ⟨rfl, ?_⟩
  case pick c x y =>
    obtain ⟨t, ht, hv⟩ := pick_sound (hs.ev c) (hs.ev x) (hs.ev y) hl
    exact ⟨_, fun w => by simp [execOp, ht, asBool], hv⟩
  case build t ps =>
    obtain ⟨r', h1, h2⟩ := build_sound (parts_rel hs ps) hl
    exact ⟨r', fun w => by have h1 := h1 w; simp only [Array.toArray_toList] at h1; simp only [execOp, Sem.run_bind, h1, Result.andThen_ok]; rfl, h2⟩
  case nilCheck x =>
    have hv := hs.ev x
    generalize hx' : a.eval x = x' at hv
    generalize ev s x = xa at hl hv
    have : (∀ w, (execOp a.eval ⟨dst, .nilCheck x, type, pos, after, guard⟩).run P w = .ok (.value x') w) ∧ xa = r := by
      unfold anilCheck at hl
      split at hl
      · injection hl with hl
        rename_i ad
        obtain ⟨ad', rfl⟩ : ∃ ad', x' = .pointer (some ad') := by cases hv with | fl h => exact ⟨_, rfl⟩ | ptr h => exact ⟨_, rfl⟩
        exact ⟨fun w => by simp [execOp, hx'], hl⟩
      · injection hl with hl
        obtain ⟨t', v', rfl⟩ : ∃ t' v', x' = .iface t' v' := by cases hv with | fl h => exact ⟨_, _, rfl⟩ | iface h => exact ⟨_, _, rfl⟩
        exact ⟨fun w => by simp [execOp, hx'], hl⟩
      · injection hl with hl
        rename_i f q1 q2
        obtain ⟨p1, p2, rfl⟩ : ∃ p1 p2, x' = .func (.func f) p1 p2 := by cases hv with | fl h => exact ⟨_, _, rfl⟩ | func => exact ⟨_, _, rfl⟩
        exact ⟨fun w => by simp [execOp, hx'], hl⟩
      · cases hl
    obtain ⟨h1, rfl⟩ := this
    exact ⟨x', h1, hv⟩
  case binOp op t x y yt =>
    refine ⟨r, fun w => ?_, .fl (bin_sound (hs.ev x) (hs.ev y) hl w).2⟩
    simp only [execOp]
    rw [Sem.run_bind, (bin_sound (hs.ev x) (hs.ev y) hl w).1]
    rfl
  case unOp op t x =>
    have hv := hs.ev x
    generalize hx' : a.eval x = x' at hv
    generalize ev s x = xa at hl hv
    unfold aun at hl
    split at hl <;> first | (cases hl; done) | skip
    all_goals
      injection hl with hl
      subst hl
      obtain rfl := hv.eq_flat rfl
      exact ⟨_, fun w => by simp [execOp, hx', Op.unary, Op.intArith, Op.intBits], .fl rfl⟩
  case convert src dst' x =>
    have hv := hs.ev x
    generalize hx' : a.eval x = x' at hv
    generalize ev s x = xa at hl hv
    unfold aconv at hl
    split at hl
    · rename_i d1 k k' n hu1 hu2
      injection hl with hl
      subst hl
      obtain rfl := hv.eq_flat rfl
      exact ⟨_, fun w => by simp [execOp, hx', convert, run_underlying hu1, run_underlying hu2, Conv.intToInt], .fl rfl⟩
    · rename_i sx hu1 hu2
      injection hl with hl
      subst hl
      obtain rfl := hv.eq_flat rfl
      exact ⟨_, fun w => by simp [execOp, hx', convert, run_underlying hu1, run_underlying hu2], .fl rfl⟩
    · cases hl
  case makeInterface t x =>
    unfold aiface at hl
    split at hl
    · cases hl
    · rename_i d hd hu
      injection hl with hl
      subst hl
      refine ⟨.iface t (a.eval x), fun w => ?_, .iface (hs.ev x)⟩
      cases d <;> first | (exfalso; exact hd _ rfl; done) | (simp [execOp, Instr.makeInterface, run_underlying hu]; done)
    · cases hl
  case slice t x lo hi mx =>
    obtain ⟨r', h1, h2⟩ := slice_sound h (hs.ev x) (opt_rel hs lo).1 (opt_rel hs lo).2 (opt_rel hs hi).1 (opt_rel hs hi).2 (opt_rel hs mx).1 (opt_rel hs mx).2 hl
    exact ⟨r', fun w => by simp only [execOp, Sem.run_bind, h1, Result.andThen_ok]; rfl, h2⟩
  case fieldAddr t x f =>
    obtain ⟨r', h1, h2⟩ := fieldAddr_sound (hs.ev x) hl
    exact ⟨r', fun w => by simp only [execOp, Sem.run_bind, h1, Result.andThen_ok]; rfl, h2⟩
  case field t x f =>
    obtain ⟨r', h1, h2⟩ := field_sound (hs.ev x) hl
    exact ⟨r', fun w => by simp only [execOp, Sem.run_bind, h1, Result.andThen_ok]; rfl, h2⟩
  case indexAddr t x i =>
    obtain ⟨r', h1, h2⟩ := indexAddr_sound (hs.ev x) (hs.ev i) hl
    exact ⟨r', fun w => by simp only [execOp, Sem.run_bind, h1, Result.andThen_ok]; rfl, h2⟩
  case index t x i =>
    obtain ⟨r', h1, h2⟩ := index_sound (hs.ev x) (hs.ev i) hl
    exact ⟨r', fun w => by simp only [execOp, Sem.run_bind, h1, Result.andThen_ok]; rfl, h2⟩
  case extract x i =>
    have hv := hs.ev x
    generalize hx' : a.eval x = x' at hv
    generalize ev s x = xa at hl hv
    unfold aextract at hl
    split at hl
    · obtain ⟨cs', rfl, hvl⟩ := hv.tuple_inv
      obtain ⟨r', h1, h2⟩ := hvl.2 i r (by simpa using hl)
      exact ⟨r', fun w => by simp [execOp, hx', Instr.extract, show cs'[i]? = some r' by simpa using h1], h2⟩
    · cases hl

/-- What an operation comes to: its value, the new memory. -/
theorem op_sound {P : Program} {G : World} {m : AM} {α α' : AH} {w : World} (h : Rel P G m α w) {N : Nat} {s : AS} {a : Act} (hs : SR m N s a) {o : Oper} {r : Value} (hl : aop P o.op s α = some (r, α')) :
    ∃ m' r' w', ((execOp a.eval o).run P w = .ok (.value r') w' ∨ ((execOp a.eval o).run P w = .ok .skip w' ∧ r' = undef)) ∧ m.le m' ∧ Rel P G m' α' w' ∧ VR m' r r' := by
  by_cases hq : quietA o.op = true
  · obtain ⟨rfl, r', h1, h2⟩ := quiet_sound h hs hq hl
    exact ⟨m, r', w, .inl (h1 w), .refl m, h, h2⟩
  obtain ⟨dst, op, type, pos, after, guard⟩ := o
  simp only at hl hq
  cases op with
  | alloc e =>
    obtain ⟨m', r', w', h1, h2⟩ := alloc_sound h hl
    exact ⟨m', r', w', .inl (by simp [execOp, h1]), h2⟩
  | box e x =>
    obtain ⟨m', r', w', h1, h2⟩ := box_sound h (hs.ev x) hl
    exact ⟨m', r', w', .inl (by simp only [execOp, Sem.run_bind, h1, Result.andThen_ok]; rfl), h2⟩
  | buildSlice t n ps =>
    obtain ⟨m', r', w', h1, h2⟩ := buildSlice_sound h (parts_rel hs ps) hl
    exact ⟨m', r', w', .inl (by simp only [Array.toArray_toList] at h1; simp only [execOp, Sem.run_bind, h1, Result.andThen_ok]; rfl), h2⟩
  | load t x =>
    have hq := keep_inv hl
    clear hl
    obtain ⟨hl, rfl⟩ := hq
    obtain ⟨r', h1, h2⟩ := load_sound h (hs.ev x) hl
    exact ⟨m, r', w, .inl (by simp only [execOp, Sem.run_bind, h1, Result.andThen_ok]; rfl), .refl m, h, h2⟩
  | store t x y =>
    simp only [aop] at hl
    cases hst : astore P t (ev s x) (ev s y) α with
    | none => simp [hst] at hl
    | some α1 =>
      simp [hst] at hl
      obtain ⟨rfl, rfl⟩ := hl
      obtain ⟨w', h1, h2⟩ := store_sound h (hs.ev x) (hs.ev y) hst
      exact ⟨m, undef, w', .inr ⟨by simp only [execOp, Sem.run_bind, h1, Result.andThen_ok]; rfl, rfl⟩, .refl m, h2, VR.undef m⟩
  | makeSlice t l c =>
    obtain ⟨m', r', w', h1, h2⟩ := make_sound h (hs.ev l) (hs.ev c) hl
    exact ⟨m', r', w', .inl (by simp only [execOp, Sem.run_bind, h1, Result.andThen_ok]; rfl), h2⟩
  | call c =>
    obtain ⟨callee, args, ts⟩ := c
    cases callee with
    | value f => simp [aop] at hl
    | invoke r n => simp [aop] at hl
    | builtin b =>
      simp only [aop] at hl
      unfold abuiltin at hl
      split at hl
      · exact absurd rfl hq
      · rename_i hargs
        obtain ⟨x', e1, hv⟩ := one_rel hs args _ hargs
        obtain rfl := hv.eq_flat rfl
        split at hl
        · rename_i t ht
          split at hl
          · rename_i e0 hu
            simp at hl
            obtain ⟨rfl, rfl⟩ := hl
            exact ⟨m, _, w, .inl (by rw [run_builtin _ e1]; simp [builtin, Builtin.cap_, ht, run_underlying hu, goInt]), .refl m, h, .fl rfl⟩
          · cases hl
        · cases hl
      · rename_i x y hargs
        obtain ⟨x', y', e1, hv1, hv2⟩ := two_rel hs args _ _ hargs
        obtain ⟨m', r', w', h1, h2⟩ := append_sound (ty := type) h hv1 hv2 hl
        exact ⟨m', r', w', .inl (by rw [run_builtin _ e1]; simp only [builtin, Sem.run_bind, h1, Result.andThen_ok]; rfl), h2⟩
      · rename_i x y hargs
        obtain ⟨x', y', e1, hv1, hv2⟩ := two_rel hs args _ _ hargs
        obtain ⟨r', w', h1, h2, h3⟩ := copy_sound (ty := type) h hv1 hv2 hl
        exact ⟨m, r', w', .inl (by rw [run_builtin _ e1]; simp only [builtin, Sem.run_bind, h1, Result.andThen_ok]; rfl), .refl m, h2, h3⟩
      · exact absurd rfl hq
      · exact absurd rfl hq
      · cases hl
  | _ => first | exact absurd rfl hq | simp [aop] at hl

end Go.Lay
