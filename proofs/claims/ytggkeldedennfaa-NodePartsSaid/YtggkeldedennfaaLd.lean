/- The layer, part 4: append and copy. -/
import Derived.Test.YtggkeldedennfaaLc
import Derived.Deep.AppendSrc
set_option linter.unusedVariables false
set_option linter.unusedSimpArgs false
namespace Go.Lay
open Go Go.RowKit

/-- The cells that a slice, or a string, has. -/
def asrc (sz : Nat) (x : Value) (α : AH) : Option (Nat × List Value) :=
  match x with
  | .slice none 0 0 => some (0, [])
  | .string s => if sz = 1 then some (s.size, byteCells s) else none
  | .slice (some ⟨id, off, none⟩) n _ => match α.get id with
    | some b => if off + n * sz ≤ b.cells.length then some (n, (b.cells.drop off).take (n * sz)) else none
    | none => none
  | _ => none

def seqA : Option TypeDesc → Bool
  | some (.slice _) | some .string => true
  | _ => false

theorem one_all {m : AM} {l l' : List Value} (h : VRL m l l') (hc : ∀ x ∈ l, isCell x = true) : ∀ x ∈ l', x.oneCell' = true := fun x hx => by
  obtain ⟨i, hi⟩ := List.mem_iff_getElem?.1 hx
  have hlt : i < l.length := by have := (List.getElem?_eq_some_iff.1 hi).1; have := h.1; omega
  obtain ⟨x', h1, h2⟩ := h.2 i _ (List.getElem?_eq_getElem hlt)
  rw [hi] at h1
  injection h1 with h1
  subst h1
  exact isCell_one (h2.one (hc _ (List.getElem_mem hlt)))

theorem byteCells_flat (s : ByteArray) : ∀ x ∈ byteCells s, flat x = true ∧ isCell x = true := fun x hx => by
  obtain ⟨b, _, rfl⟩ := List.mem_map.1 hx
  exact ⟨rfl, rfl⟩

theorem asrc_sound {P : Program} {G : World} {m : AM} {α : AH} {w : World} (h : Rel P G m α w) {sz n : Nat} {x x' : Value} {vs : List Value} {u : TypeId} (hx : VR m x x') (hl : asrc sz x α = some (n, vs))
    (hk : seqA (P.underlying u) = true) : ∃ news, Src P sz u x' n news w ∧ VRL m vs news ∧ ∀ v ∈ vs, isCell v = true := by
  have hkind : (∃ e', P.underlying u = some (.slice e')) ∨ P.underlying u = some .string := by
    unfold seqA at hk
    split at hk
    · rename_i e he; exact .inl ⟨e, he⟩
    · rename_i he; exact .inr he
    · cases hk
  unfold asrc at hl
  split at hl
  · obtain rfl := hx.eq_flat rfl
    injection hl with hl
    obtain ⟨rfl, rfl⟩ := Prod.mk.inj hl
    refine ⟨[], ⟨hkind, fun _ => rfl, ?_, ?_, by simp, fun _ h => by cases h⟩, VRL.nil m, fun _ h => by cases h⟩
    · exact run_firstCells_none w sz 0 0 0
    · exact run_firstCells_none w.drew sz 0 0 0
  · rename_i s
    obtain rfl := hx.eq_flat rfl
    split at hl
    · rename_i h1
      subst h1
      injection hl with hl
      obtain ⟨rfl, rfl⟩ := Prod.mk.inj hl
      refine ⟨byteCells s, ⟨hkind, fun _ => rfl, firstCells_string s w, firstCells_string s w.drew, by rw [byteCells_length, Nat.mul_one], fun v hv => isCell_one (byteCells_flat s v hv).2⟩,
        VRL.flat fun v hv => (byteCells_flat s v hv).1, fun v hv => (byteCells_flat s v hv).2⟩
    · cases hl
  · rename_i id off len c
    obtain ⟨hid, c', o', rfl, ho, hle, htop⟩ := hx.sl_inv
    split at hl
    · rename_i b hb
      split at hl
      · rename_i hfit
        injection hl with hl
        obtain ⟨rfl, rfl⟩ := Prod.mk.inj hl
        have hcell : ∀ v ∈ (b.cells.drop off).take (len * sz), isCell v = true := fun v hv => h.cell id b hb v (List.mem_of_mem_drop (List.mem_of_mem_take hv))
        have hex : ∀ j : Nat, ∃ x', j < len * sz → w.cell? ⟨m.b id, o' + j, none⟩ = some x' ∧ VR m ((b.cells.drop off)[j]?.get!) x' := fun j => by
          by_cases hj : j < len * sz
          · have hlen : 0 < len := by
              rcases Nat.eq_zero_or_pos len with h0 | h0
              · subst h0; simp at hj
              · exact h0
            obtain ⟨x', h1, h2⟩ := h.read id b hb (off + j) b.cells[off + j] (List.getElem?_eq_getElem (by omega))
            refine ⟨x', fun _ => ⟨by rw [ho hlen, Nat.add_assoc]; exact h1, ?_⟩⟩
            rw [List.getElem?_drop, List.getElem?_eq_getElem (by omega)]
            exact h2
          · exact ⟨undef, fun hc => absurd hc hj⟩
        obtain ⟨f, hf⟩ := Classical.axiomOfChoice hex
        have hv : VRL m ((b.cells.drop off).take (len * sz)) ((List.range (len * sz)).map f) := by
          refine ⟨by simp; omega, fun i x hx => ?_⟩
          have hi : i < len * sz := by have := (List.getElem?_eq_some_iff.1 hx).1; simp at this; omega
          refine ⟨f i, by simp [hi], ?_⟩
          have := (hf i hi).2
          rw [List.getElem?_take, if_pos hi] at hx
          rw [hx] at this
          exact this
        have hr : ∀ j v, ((List.range (len * sz)).map f)[j]? = some v → w.cell? ((⟨m.b id, o', none⟩ : Addr).add j) = some v := fun j v hj => by
          have hi : j < len * sz := by have := (List.getElem?_eq_some_iff.1 hj).1; simpa using this
          simp [hi] at hj
          subst hj
          rw [addr_add]
          exact (hf j hi).1
        exact ⟨_, ⟨hkind, fun _ => rfl, run_firstCells_some w sz len _ len c' _ (by simp) hr, run_firstCells_some w.drew sz len _ len c' _ (by simp) (by simpa using hr), by simp, one_all hv hcell⟩, hv, hcell⟩
      · cases hl
    · cases hl
  · cases hl

def aappend (P : Program) (ts : Array TypeId) (s x : Value) (α : AH) : Option (Value × AH) :=
  match ts with
  | ⟨[t, u]⟩ =>
    match P.underlying t with
    | some (.slice e) =>
      match zeroA P e, sizeA P e with
      | some z, some sz =>
        if seqA (P.underlying u) = true ∧ (cellsL z).length = sz ∧ 0 < bytesA P e then
          match asrc sz x α with
          | some (n, vs) =>
            match s with
            | .slice none 0 0 =>
              if n = 0 then some (.slice none 0 0, α)
              else if n * bytesA P e ≤ 140737488355328 then some (.slice (some ⟨α.n, 0, none⟩) n 0, α.alloc ⟨vs, e, true⟩) else none
            | .slice (some ⟨id, off, none⟩) len _ =>
              match α.get id with
              | some b =>
                if b.own = true ∧ b.elem = e ∧ off + len * sz ≤ b.cells.length ∧ (len + n) * bytesA P e ≤ 140737488355328 then
                  some (.slice (some ⟨α.n, 0, none⟩) (len + n) 0, (α.set id none).alloc ⟨(b.cells.drop off).take (len * sz) ++ vs, e, true⟩)
                else none
              | none => none
            | _ => none
          | none => none
        else none
      | _, _ => none
    | _ => none
  | _ => none

theorem grownCap_ge (w : World) (need old : Nat) (e : TypeId) : need ≤ grownCap w need old e := by simp [grownCap, Question.cut]

theorem append_sound {P : Program} {G : World} {m : AM} {α α' : AH} {w : World} (h : Rel P G m α w) {ts : Array TypeId} {ty : TypeId} {s s' x x' r : Value} (hsv : VR m s s') (hx : VR m x x') (hl : aappend P ts s x α = some (r, α')) :
    ∃ m' r' w', (Builtin.append_ ts ty #[s', x']).run P w = .ok r' w' ∧ m.le m' ∧ Rel P G m' α' w' ∧ VR m' r r' := by
  unfold aappend at hl
  split at hl
  · rename_i t u
    split at hl
    · rename_i e ht
      split at hl
      · rename_i z sz hz hs
        split at hl
        · rename_i hc
          obtain ⟨hk, hzs, hb0⟩ := hc
          obtain ⟨i, hi, hin, hib, -⟩ := run_typeInfoA hs w
          obtain ⟨i2, hi2, hiz⟩ := zeroA_info hz
          rw [hi] at hi2
          injection hi2 with hi2
          subst hi2
          have hzs' : z.cells.size = sz := by simpa [cellsL] using hzs
          split at hl
          · rename_i n vs hsrc
            obtain ⟨news, hsr, hv, hcell⟩ := asrc_sound h hx hsrc hk
            have hnl := hsr.newsLen
            split at hl
            · obtain rfl := hsv.eq_flat rfl
              split at hl
              · rename_i hn0
                subst hn0
                injection hl with hl
                obtain ⟨rfl, rfl⟩ := Prod.mk.inj hl
                refine ⟨m, .slice none 0 0, w, ?_, .refl m, h, .fl rfl⟩
                rcases hsr.kind with ⟨e', hk⟩ | hk <;> simp [Builtin.append_, run_underlying ht, run_underlying hk, run_sizeA hs, hsr.len, hsr.cells]
              · split at hl
                · rename_i hn0 hbytes
                  injection hl with hl
                  obtain ⟨rfl, rfl⟩ := Prod.mk.inj hl
                  subst hin
                  have hn63 : n ≤ 140737488355328 := Nat.le_trans (Nat.le_mul_of_pos_right _ hb0) hbytes
                  have hrun := run_append_grow_src w t u ty e i z ht hi hiz none 0 0 [] (run_firstCells_none w.drew i.size 0 0 0) x' n news hsr (by omega) (by omega)
                    (growslice_fits (by omega) (by rw [Nat.zero_add, hib]; exact hbytes))
                  rw [Nat.zero_add, List.nil_append] at hrun
                  generalize hnc : grownCap w n 0 e = nc at hrun
                  have hge : n ≤ nc := by rw [← hnc]; exact grownCap_ge w n 0 e
                  have hsize : (news.toArray ++ Builtin.zeroCells z.cells (nc - n)).size = nc * i.size := by
                    simp [Builtin.zeroCells, hnl, hzs']
                    rw [← Nat.add_mul]; congr 1; omega
                  obtain ⟨p1, p2, p3, p4, p5⟩ := push_new h.n w.heap.size 0 (nc * i.size) (P.cellsOf e)
                  refine ⟨m.push w.heap.size 0 (nc * i.size) (P.cellsOf e), _, _, hrun, AM.le_push m w.heap.size 0 (nc * i.size) (P.cellsOf e), ?_, ?_⟩
                  · have := (h.drew (w.drawn + 1)).alloc vs (news.toArray ++ Builtin.zeroCells z.cells (nc - n)) e (fun j y hy => ?_) (by rw [hv.1]; simp) hcell
                    · rw [hsize] at this; exact this
                    · obtain ⟨y', h1, h2⟩ := hv.2 j y hy
                      refine ⟨y', ?_, h2⟩
                      have hj : j < news.length := (List.getElem?_eq_some_iff.1 h1).1
                      rw [Array.getElem?_append_left (by simpa using hj)]
                      simpa using h1
                  · have := VR.sl (m := m.push w.heap.size 0 (nc * i.size) (P.cellsOf e)) (id := α.n) (off := 0) (len := n) (c := 0) (c' := nc) (o' := 0) p5 (fun _ => by rw [p2]) hge
                      (by rw [p3, p4, cellsOf_sizeA hs]; omega)
                    rw [p1] at this
                    exact this
                · cases hl
            · rename_i id off len c
              obtain ⟨hid, c', o', rfl, ho, hle, htop⟩ := hsv.sl_inv
              split at hl
              · rename_i b hb
                split at hl
                · rename_i hcond
                  obtain ⟨hown, rfl, hfit, hbytes⟩ := hcond
                  injection hl with hl
                  obtain ⟨rfl, rfl⟩ := Prod.mk.inj hl
                  subst hin
                  obtain ⟨o1, o2, o3, o4, o5⟩ := h.own id b hb hown
                  rw [cellsOf_sizeA hs] at o3
                  by_cases hroom : len + n ≤ c'
                  · have hmul : (len + n) * i.size ≤ c' * i.size := Nat.mul_le_mul_right _ hroom
                    rw [Nat.add_mul] at hmul
                    rw [o3] at htop
                    have hvl := hv.1
                    have hrun := run_append_room_src w t u ty b.elem i ht hi (m.b id) o' len c' x' n news hsr hroom (fun j hj => (o5 _ (by omega)).1) (fun j hj => (o5 _ (by omega)).2)
                    have hg := h.grow hb hown off (len * i.size) o' vs news hv hcell (fun hp => ho (by
                      rcases Nat.eq_zero_or_pos len with h0 | h0
                      · subst h0; simp at hp
                      · exact h0)) (.inl hfit) (by omega)
                    refine ⟨_, _, _, hrun, AM.le_push m (m.b id) o' (m.top id) (m.sz id), hg, ?_⟩
                    obtain ⟨p1, p2, p3, p4, p5⟩ := push_new h.n (m.b id) o' (m.top id) (m.sz id)
                    have := VR.sl (m := m.push (m.b id) o' (m.top id) (m.sz id)) (id := α.n) (off := 0) (len := len + n) (c := 0) (c' := c') (o' := o') p5 (fun _ => by rw [p2]; rfl) hroom
                      (by rw [p3, p4, o3]; exact htop)
                    rw [p1] at this
                    exact this
                  · obtain ⟨olds, hso, hvo, hco⟩ := asrc_sound (x := .slice (some ⟨id, off, none⟩) len c) (sz := i.size) (n := len) (vs := (b.cells.drop off).take (len * i.size)) (u := t) h (VR.sl hid ho hle htop) (by simp only [asrc, hb]; rw [if_pos hfit]) (by rw [ht]; rfl)
                    have hn63 : len + n ≤ 140737488355328 := Nat.le_trans (Nat.le_mul_of_pos_right _ hb0) hbytes
                    have hrun := run_append_grow_src w t u ty b.elem i z ht hi hiz (some ⟨m.b id, o', none⟩) len c' olds hso.cellsD x' n news hsr (by omega) (by omega)
                      (growslice_fits (by omega) (by rw [hib]; exact hbytes))
                    generalize hnc : grownCap w (len + n) c' b.elem = nc at hrun
                    have hge : len + n ≤ nc := by rw [← hnc]; exact grownCap_ge w (len + n) c' b.elem
                    have hol := hso.newsLen
                    have hsize : ((olds ++ news).toArray ++ Builtin.zeroCells z.cells (nc - (len + n))).size = nc * i.size := by
                      simp [Builtin.zeroCells, hnl, hol, hzs']
                      rw [← Nat.add_mul, ← Nat.add_mul]; congr 1; omega
                    have hvv := hvo.append hv
                    obtain ⟨p1, p2, p3, p4, p5⟩ := push_new h.n w.heap.size 0 (nc * i.size) (P.cellsOf b.elem)
                    refine ⟨m.push w.heap.size 0 (nc * i.size) (P.cellsOf b.elem), _, _, hrun, AM.le_push m w.heap.size 0 (nc * i.size) (P.cellsOf b.elem), ?_, ?_⟩
                    · have := ((h.kill id).drew (w.drawn + 1)).alloc ((b.cells.drop off).take (len * i.size) ++ vs) ((olds ++ news).toArray ++ Builtin.zeroCells z.cells (nc - (len + n))) b.elem (fun j y hy => ?_)
                        (by rw [hvv.1]; simp) (fun y hy => (List.mem_append.1 hy).elim (hco y) (hcell y))
                      · rw [hsize] at this; exact this
                      · obtain ⟨y', h1, h2⟩ := hvv.2 j y hy
                        refine ⟨y', ?_, h2⟩
                        have hj : j < (olds ++ news).length := (List.getElem?_eq_some_iff.1 h1).1
                        rw [Array.getElem?_append_left (by simpa using hj)]
                        simpa using h1
                    · have := VR.sl (m := m.push w.heap.size 0 (nc * i.size) (P.cellsOf b.elem)) (id := α.n) (off := 0) (len := len + n) (c := 0) (c' := nc) (o' := 0) p5 (fun _ => by rw [p2]) hge
                        (by rw [p3, p4, cellsOf_sizeA hs]; omega)
                      rw [p1] at this
                      exact this
                · cases hl
              · cases hl
            · cases hl
          · cases hl
        · cases hl
      · cases hl
    · cases hl
  · cases hl

/-- copy: of a slice, onto a row of one's own -/
def acopy (P : Program) (ts : Array TypeId) (d x : Value) (α : AH) : Option (Value × AH) :=
  match ts[0]? with
  | some t =>
    match P.underlying t with
    | some (.slice e) =>
      match sizeA P e with
      | some sz =>
        match d, x with
        | .slice none 0 0, .slice (some _) _ _ | .slice none 0 0, .slice none 0 0 | .slice (some _) _ _, .slice none 0 0 => some (.int .i64 0, α)
        | .slice (some ⟨id, off, none⟩) len _, .slice (some ⟨id', off', none⟩) n _ =>
          match α.get id, asrc sz (.slice (some ⟨id', off', none⟩) (min n len) 0) α with
          | some b, some (_, vs) => if b.own = true ∧ off + len * sz ≤ b.cells.length then
              some (.int .i64 ((min n len : Nat) : Int), α.set id (some { b with cells := setL b.cells off vs })) else none
          | _, _ => none
        | _, _ => none
      | none => none
    | _ => none
  | none => none

theorem copy_sound {P : Program} {G : World} {m : AM} {α α' : AH} {w : World} (h : Rel P G m α w) {ts : Array TypeId} {ty : TypeId} {d d' x x' r : Value} (hd : VR m d d') (hx : VR m x x') (hl : acopy P ts d x α = some (r, α')) :
    ∃ r' w', (Builtin.copy_ ts ty #[d', x']).run P w = .ok r' w' ∧ Rel P G m α' w' ∧ VR m r r' := by
  unfold acopy at hl
  split at hl
  · rename_i t ht0
    split at hl
    · rename_i e ht
      split at hl
      · rename_i sz hs
        split at hl
        · rename_i a n c
          obtain rfl := hd.eq_flat rfl
          injection hl with hl
          obtain ⟨rfl, rfl⟩ := Prod.mk.inj hl
          have hx' : ∃ a' c', x' = .slice (some a') n c' := by
            cases hx with
            | fl hf => simp [Go.Lay.flat] at hf
            | sl h1 h2 h3 h4 => exact ⟨_, _, rfl⟩
          obtain ⟨a', c', rfl⟩ := hx'
          refine ⟨.int .i64 0, w, ?_, h, .fl rfl⟩
          simp [Builtin.copy_, ht0, run_underlying ht, Builtin.lenOf, run_sizeA hs, Builtin.firstCells, loadCells, loadCellsFrom, goInt]
        · obtain rfl := hd.eq_flat rfl
          obtain rfl := hx.eq_flat rfl
          injection hl with hl
          obtain ⟨rfl, rfl⟩ := Prod.mk.inj hl
          refine ⟨.int .i64 0, w, ?_, h, .fl rfl⟩
          simp [Builtin.copy_, ht0, run_underlying ht, Builtin.lenOf, run_sizeA hs, Builtin.firstCells, goInt]
        · rename_i a n c
          obtain rfl := hx.eq_flat rfl
          injection hl with hl
          obtain ⟨rfl, rfl⟩ := Prod.mk.inj hl
          have hx' : ∃ a' c', d' = .slice (some a') n c' := by
            cases hd with
            | fl hf => simp [Go.Lay.flat] at hf
            | sl h1 h2 h3 h4 => exact ⟨_, _, rfl⟩
          obtain ⟨a', c', rfl⟩ := hx'
          refine ⟨.int .i64 0, w, ?_, h, .fl rfl⟩
          simp [Builtin.copy_, ht0, run_underlying ht, Builtin.lenOf, run_sizeA hs, Builtin.firstCells, goInt, storeCells]
        · rename_i id off len c id2 off2 n c2
          obtain ⟨hid, cd, od, rfl, ho, hle, htop⟩ := hd.sl_inv
          obtain ⟨hid2, cx, ox, rfl, ho2, hle2, htop2⟩ := hx.sl_inv
          split at hl
          · rename_i b q vs hb hsrc
            split at hl
            · rename_i hc
              injection hl with hl
              obtain ⟨rfl, rfl⟩ := Prod.mk.inj hl
              have hmin : min n len ≤ n ∧ min n len ≤ len := ⟨Nat.min_le_left _ _, Nat.min_le_right _ _⟩
              obtain ⟨news, hsr, hv, hcell⟩ := asrc_sound (u := t) h (VR.sl (c := 0) (c' := cx) (len := min n len) hid2 (fun hp => ho2 (by omega)) (by omega) htop2) hsrc (by rw [ht]; rfl)
              have hq : q = min n len := by
                simp only [asrc] at hsrc
                split at hsrc
                · split at hsrc
                  · injection hsrc with hsrc; exact (Prod.mk.inj hsrc).1.symm
                  · cases hsrc
                · cases hsrc
              subst hq
              obtain ⟨o1, o2, o3, o4, o5⟩ := h.own id b hb hc.1
              have hnl := hsr.newsLen
              have hvl := hv.1
              have hmul : min n len * sz ≤ len * sz := Nat.mul_le_mul_right _ hmin.2
              have hcells : (Builtin.firstCells sz (min n len) (.slice (some ⟨m.b id2, ox, none⟩) n cx)).run P w = .ok news.toArray w := hsr.cells
              by_cases hlen : 0 < len
              · have hod := ho hlen
                subst hod
                have hst := run_storeCells_cells (P := P) (m.b id) (m.base id + off) news 0 w (fun j hj => (o5 _ (by omega)).1) (fun j hj => (o5 _ (by omega)).2) (one_all hv hcell)
                refine ⟨.int .i64 ((min n len : Nat) : Int), w.setCells (m.b id) (m.base id + off) news, ?_, h.store hb hc.1 off vs news hv hcell (by omega), .fl rfl⟩
                simp only [Nat.add_zero] at hst
                simp [Builtin.copy_, ht0, run_underlying ht, Builtin.lenOf, run_sizeA hs, hcells, goInt, hst]
              · have h0 : len = 0 := by omega
                subst h0
                have hn0 : news = [] := List.eq_nil_of_length_eq_zero (by simpa using hnl)
                subst hn0
                have hv0 : vs = [] := List.eq_nil_of_length_eq_zero (by simpa using hvl)
                subst hv0
                refine ⟨.int .i64 ((min n 0 : Nat) : Int), w, ?_, ?_, .fl rfl⟩
                · simp only [Nat.min_zero] at hcells
                  simp [Builtin.copy_, ht0, run_underlying ht, Builtin.lenOf, run_sizeA hs, hcells, goInt, storeCells]
                · exact h.store hb hc.1 off [] [] (VRL.nil m) (by simp) (by simp; omega)
            · cases hl
          · cases hl
        · cases hl
      · cases hl
    · cases hl
  · cases hl

end Go.Lay
