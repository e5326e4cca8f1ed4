/- The rows' common part: what came in as a slice of ints, as the layer sees it; what goes out. -/
import Derived.Test.YtggkeldedennfaaRows
import Derived.Test.YtggkeldedennfaaHb
import Derived.WalkKit
import Derived.ProofKit
import Derived.OpenShut
import Derived.ShutString
import Derived.ChangeOld
import Derived.SizedLaws
import Derived.ChangeSlices
set_option linter.unusedVariables false
set_option linter.unusedSimpArgs false
namespace Go.Proofs.Ytggkeldedennfaa
open Go.ChangeShapes Go.WideShapes Go.ChangeAt Go.RowKit Go.Lay

theorem Rk.own : ownKnob Try.prog.godebug = none := by kernel_rfl
theorem Rk.laidOut : laidOutB Try.prog = true := by kernel_rfl
set_option maxRecDepth 100000 in
/-- A slice of ints is no longer than its weight allows. -/
theorem sized_ints {H : Type} {enc : TypeId × Value → H} {W : World} {a : Option Addr} {len cap : Nat} {d : DataW H} {ps : List MemPlace} {ts : List TypeId} {ds : List (DataW H)} {j : Nat}
    (hsz : (DataW.weightsEach Try.prog ts ds).all (· ≤ reachBytes) = true) (ht : ts[j]? = some 28) (hd : ds[j]? = some d) (h : DataW.Trod enc Try.prog W 0 (fun _ => true) true 28 (.slice a len cap) d ps) : len ≤ 1000000000000000 := by
  obtain ⟨fuel, hf⟩ := h
  rcases open_ints Try.underlying28 Try.underlying3 (by kernel_rfl) hf with ⟨hcs, _⟩ | ⟨x, l, c, zs, hcs, _, hl, _, hz, hx, _, _⟩
  · simp [Value.cells] at hcs
    obtain ⟨rfl, rfl, rfl⟩ := hcs
    omega
  · simp [Value.cells] at hcs
    obtain ⟨rfl, rfl, rfl⟩ := hcs
    obtain ⟨hx, _⟩ := Prod.mk.inj hx
    subst hx
    have z := sized_slice hsz ht hd Try.underlying28
    have hB : Try.prog.bytesOf 3 = 8 := by kernel_rfl
    have hr : reachBytes = 140737488351232 := rfl
    rw [hB] at z
    simp [lits] at z
    simp at hz
    omega
set_option maxRecDepth 100000 in
theorem one_ints {H : Type} {enc : TypeId × Value → H} {W : World} {base : Nat} {a : Option Addr} {len cap : Nat} {d : DataW H} {ps : List MemPlace} (hok : Value.okWide Try.prog W .any base 28 (.slice a len cap))
    (h : DataW.Trod enc Try.prog W 0 (fun _ => true) true 28 (.slice a len cap) d ps) : ∃ (m : AM) (α : AH) (va : Value) (L : List Int), Rel Try.prog W m α W ∧ VR m va (.slice a len cap) ∧ Ints α va L ∧ L.length = len := by
  obtain ⟨fuel, hf⟩ := h
  have rel0 : Rel Try.prog W ⟨0, fun _ => 0, fun _ => 0, fun _ => 0, fun _ => 0⟩ ⟨0, fun _ => none⟩ W :=
    ⟨rfl, Below.refl _ _, (fun _ _ h => nomatch h), (fun _ _ h => nomatch h), (fun _ _ h => nomatch h), (fun _ _ h => nomatch h), (fun _ _ h => nomatch h), (fun _ _ h => nomatch h), (fun _ _ _ _ h => nomatch h)⟩
  rcases open_ints Try.underlying28 Try.underlying3 (by kernel_rfl) hf with ⟨hcs, _⟩ | ⟨x, l, c, zs, hcs, _, hl, _, hz, hx, hcell, _⟩
  · simp [Value.cells] at hcs
    obtain ⟨rfl, rfl, rfl⟩ := hcs
    exact ⟨_, _, .slice none 0 0, [], rel0, .fl rfl, .inl ⟨rfl, rfl⟩, rfl⟩
  · simp [Value.cells] at hcs
    obtain ⟨rfl, rfl, rfl⟩ := hcs
    simp only [Value.okWide, Try.underlying28, Cell.okWide, Cell.ok] at hok
    obtain ⟨hlc, _, _, hspot, row, cells, hsh, _⟩ := hok
    obtain ⟨blk, off, spot⟩ := x
    simp only at hspot
    subst hspot
    have hlt : blk < W.heap.size := by
      rcases Nat.lt_or_ge blk W.heap.size with h | h
      · exact h
      · simp [World.shape?, Array.getElem?_eq_none h] at hsh
    simp at hz
    have hll : (zs.take len).length = len := by simp; omega
    refine ⟨⟨1, fun _ => blk, fun _ => off, fun _ => off + cap, fun _ => 1⟩, ⟨1, fun i => if i = 0 then some ⟨(zs.take len).map (.int .i64), 3, false⟩ else none⟩, .slice (some ⟨0, 0, none⟩) len 0, zs.take len, ?_, ?_, ?_, hll⟩
    · refine ⟨rfl, Below.refl _ _, fun id b hb => ?_, fun id b hb => ?_, fun id b hb i x hx => ?_, fun id b hb => ?_, fun id b hb _ => hlt, fun id b hb ho => ?_, fun id id' b b' hb _ ho => ?_⟩ <;> (simp only at hb; split at hb <;> cases hb)
      · rename_i h; subst h; exact Nat.one_pos
      · intro x hx; simp only [List.mem_map] at hx; obtain ⟨n, _, rfl⟩ := hx; rfl
      · simp only [List.getElem?_map, Option.map_eq_some_iff] at hx
        obtain ⟨n, hn, rfl⟩ := hx
        obtain ⟨hi, hn⟩ := List.getElem?_eq_some_iff.1 hn
        have hi' : i < zs.length := by simp at hi; omega
        have := hcell i hi'
        refine ⟨.int .i64 n, ?_, .fl rfl⟩
        have e : (Addr.add ⟨blk, off, none⟩ i) = ⟨blk, off + i, none⟩ := by unfold Addr.add; split <;> simp_all
        rw [e] at this
        rw [this]
        simp at hn
        rw [← hn]
        simp [List.getD, hi']
      · exact (show Try.prog.cellsOf 3 = 1 by kernel_rfl).symm
      · cases ho
      · cases ho
    · exact .sl Nat.one_pos (fun _ => rfl) hlc (by simp)
    · refine .inr ⟨0, 0, 0, _, by rw [hll], Nat.one_pos, rfl, rfl, by simp [intK], fun i hi => ?_⟩
      simp only [intK, Nat.zero_add, Nat.mul_one]
      exact win1 (by simp only [List.getElem?_map, List.getElem?_eq_getElem hi]; rfl)
theorem rel0 (P : Program) (W : World) : Rel P W ⟨0, fun _ => 0, fun _ => 0, fun _ => 0, fun _ => 0⟩ ⟨0, fun _ => none⟩ W :=
  ⟨rfl, Below.refl _ _, (fun _ _ h => nomatch h), (fun _ _ h => nomatch h), (fun _ _ h => nomatch h), (fun _ _ h => nomatch h), (fun _ _ h => nomatch h), (fun _ _ h => nomatch h), (fun _ _ _ _ h => nomatch h)⟩
theorem calls1 {f : FuncId} {args args' : List Value} {α : AH} {m : AM} {W : World} (hR : Rel Try.prog W m α W) (hv : VRL m args args') (h : NCalls Try.prog f args α (fun r α' => r = .bool true ∧ Fr α.n α α')) :
    Calls Try.prog f args'.toArray W fun e W' => e = .returned (.bool true) ∧ Below W.heap.size W W' := by
  refine (h.2 W m W args' hR hv).mono fun e W' hr => ?_
  obtain ⟨v', rfl, m', v, α', _, hR, hv, rfl, _⟩ := hr
  exact ⟨by rw [VR.eq_flat hv rfl], hR.below⟩
end Go.Proofs.Ytggkeldedennfaa
