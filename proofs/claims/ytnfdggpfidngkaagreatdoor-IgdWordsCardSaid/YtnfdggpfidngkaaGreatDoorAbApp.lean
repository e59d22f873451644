/-
  The layer Ab, part 9: literals of structs and slices, append, the bytes of a text.
-/
import Derived.Test.YtnfdggpfidngkaaGreatDoorAbGhost
namespace Go.Ab

/-! ### Literals -/

def fillV (place : Nat → Option (Nat × Nat)) (cells : List V) : List (Nat × V) → Option (List V)
  | [] => some cells
  | (i, v) :: rest =>
    match place i with
    | none => none
    | some (off, size) =>
      bif Nat.beq (cellsV v).length size && Nat.ble (off + (cellsV v).length) cells.length && (cellsV v).all leafV then fillV place (splice cells off (cellsV v)) rest else none

theorem fold_splice (off : Nat) : ∀ (l : List Value) (j : Nat) (cs : Array Value), off + j + l.length ≤ cs.size →
    ((l.zipIdx j).foldl (fun cs (c, j) => cs.setIfInBounds (off + j) c) cs).toList = splice cs.toList (off + j) l := by
  intro l
  induction l with
  | nil => intro j cs h; simp [splice]
  | cons x l ih =>
    intro j cs h
    simp only [List.length_cons] at h
    simp only [List.zipIdx_cons, List.foldl_cons]
    rw [ih (j + 1) _ (by simp; omega)]
    apply List.ext_getElem?
    intro i
    rw [splice_get _ _ _ (by simp; omega), splice_get _ _ _ (by simp; omega)]
    simp only [Array.toList_setIfInBounds, List.length_cons]
    by_cases h1 : i = off + j
    · subst h1
      have a1 : ¬ (off + (j + 1) ≤ off + j ∧ off + j < off + (j + 1) + l.length) := by omega
      have a2 : off + j ≤ off + j ∧ off + j < off + j + (l.length + 1) := by omega
      rw [if_neg a1, if_pos a2, List.getElem?_set_self (by simp; omega)]
      simp
    · by_cases h2 : off + j + 1 ≤ i ∧ i < off + j + 1 + l.length
      · have a1 : off + (j + 1) ≤ i ∧ i < off + (j + 1) + l.length := by omega
        have a2 : off + j ≤ i ∧ i < off + j + (l.length + 1) := by omega
        rw [if_pos a1, if_pos a2, show i - (off + j) = (i - (off + (j + 1))) + 1 by omega]
        simp
      · have a1 : ¬ (off + (j + 1) ≤ i ∧ i < off + (j + 1) + l.length) := by omega
        have a2 : ¬ (off + j ≤ i ∧ i < off + j + (l.length + 1)) := by omega
        rw [if_neg a1, if_neg a2, List.getElem?_set_ne (fun e => h1 e.symm)]

def CellsR (α : Nat → Option (Nat × Nat)) (S : Nat → Prop) (W : World) (cs : List V) (xs : Array Value) : Prop :=
  xs.size = cs.length ∧ ∀ i (h : i < cs.length), VR α S W cs[i] (xs.getD i undef)

theorem CellsR.splice {α : Nat → Option (Nat × Nat)} {S : Nat → Prop} {W : World} {cs ws : List V} {xs us : Array Value} {o : Nat} (h : CellsR α S W cs xs) (hw : CellsR α S W ws us) (hl : o + ws.length ≤ cs.length) :
    CellsR α S W (splice cs o ws) (splice xs.toList o us.toList).toArray := by
  have h1 : us.toList.length = ws.length := by simpa using hw.1
  refine ⟨?_, fun i hi => ?_⟩
  · rw [List.size_toArray, splice_length _ _ _ (by have := h.1; have := hw.1; simp; omega), splice_length _ _ _ hl]; simpa using h.1
  · have hx : 0 + cs.length ≤ xs.size := by have := h.1; omega
    have := splice_rel (base := 0) (us := us.toList) hx hl h1 (fun i hi => by rw [Nat.zero_add]; exact h.2 i hi) (fun i hi => by
      have := hw.2 i hi; rw [getD_toList] at this; exact this) i hi
    simpa using this

theorem fill_rel {α : Nat → Option (Nat × Nat)} {S : Nat → Prop} {W : World} {place : Nat → Option (Nat × Nat)} : ∀ (ps : List (Nat × V)) (qs : List (Nat × Value)) (cs rs : List V) (xs : Array Value),
    ps.length = qs.length → (∀ i (h1 : i < ps.length) (h2 : i < qs.length), ps[i].1 = qs[i].1 ∧ VR α S W ps[i].2 qs[i].2) → CellsR α S W cs xs → fillV place cs ps = some rs →
    ∃ ys, Instr.fill place xs qs = some ys ∧ CellsR α S W rs ys := by
  intro ps
  induction ps with
  | nil =>
    intro qs cs rs xs hl _ hc hf
    obtain rfl : qs = [] := List.eq_nil_of_length_eq_zero (by simpa using hl.symm)
    simp only [fillV, Option.some.injEq] at hf
    subst hf
    exact ⟨xs, rfl, hc⟩
  | cons p ps ih =>
    intro qs cs rs xs hl hr hc hf
    obtain ⟨i, v⟩ := p
    cases qs with
    | nil => cases hl
    | cons q qs =>
      obtain ⟨i', x⟩ := q
      have h0 := hr 0 (by simp) (by simp)
      simp only [List.getElem_cons_zero] at h0
      obtain ⟨rfl, hv⟩ := h0
      simp only [fillV] at hf
      split at hf
      · cases hf
      · rename_i off size hp
        cases hcond : (Nat.beq (cellsV v).length size && Nat.ble (off + (cellsV v).length) cs.length && (cellsV v).all leafV) with
        | false => rw [hcond] at hf; cases hf
        | true =>
          rw [hcond] at hf
          simp only [cond_true] at hf
          simp only [Bool.and_eq_true] at hcond
          obtain ⟨⟨c1, c2⟩, c3⟩ := hcond
          have e1 := Nat.eq_of_beq_eq_true c1
          have e2 := Nat.le_of_ble_eq_true c2
          have hcr := cellsV_rel c3 hv
          have hsp := hc.splice (us := x.cells) hcr e2
          have hfold := fold_splice off x.cells.toList 0 xs (by have h1 := hc.1; have h2 := hcr.1; simp only [Array.length_toList]; omega)
          simp only [Nat.add_zero] at hfold
          obtain ⟨ys, hy, hyr⟩ := ih qs _ rs _ (by simpa using hl) (fun j h1 h2 => by have := hr (j + 1) (by simpa using h1) (by simpa using h2); simpa using this) hsp hf
          refine ⟨ys, ?_, hyr⟩
          simp only [Instr.fill, hp]
          rw [if_neg (by simp only [ne_eq, Bool.or_eq_true, decide_eq_true_eq]; have h1 := hc.1; have h2 := hcr.1; omega)]
          rw [← hy]
          congr 1
          apply Array.ext'
          rw [← hfold, ← Array.foldl_toList]
          simp

section
variable {P : Program} {Γ : Glob} {e : Env} {s : Hs} {d : Option Tmp} {ty : TypeId} {pos : String} {af : Array Edge} {g : Option (Nat × Bool)}

/-- The places of a struct's fields, and their sizes. -/
def PlacesT (P : Program) (t : TypeId) (pl : List (Nat × Nat)) : Prop :=
  ∃ fields, P.underlying t = some (.struct fields) ∧ ∀ W, (fields.mapM fun f => do pure (f.offset, ← sizeOf f.type) : Sem (Array (Nat × Nat))).run P W = .ok pl.toArray W

def placesL (P : Program) : List Field → List (Nat × Nat) → Bool
  | [], [] => true
  | f :: fs, p :: ps => (match P.info? f.type with | some i => f.offset == p.1 && i.size == p.2 | none => false) && placesL P fs ps
  | _, _ => false

def placesB (P : Program) (t : TypeId) (pl : List (Nat × Nat)) : Bool := match P.underlying t with
  | some (.struct fields) => placesL P fields.toList pl
  | _ => false

theorem placesL_run : ∀ (fs : List Field) (pl : List (Nat × Nat)), placesL P fs pl = true → ∀ W, (fs.mapM fun f => do pure (f.offset, ← sizeOf f.type) : Sem (List (Nat × Nat))).run P W = .ok pl W := by
  intro fs
  induction fs with
  | nil => intro pl h W; cases pl <;> first | rfl | cases h
  | cons f fs ih =>
    intro pl h W
    cases pl with
    | nil => cases h
    | cons p pl =>
      simp only [placesL, Bool.and_eq_true] at h
      obtain ⟨h1, h2⟩ := h
      split at h1
      · rename_i i hi
        simp only [Bool.and_eq_true, beq_iff_eq] at h1
        have := ih pl h2 W
        simp only [List.mapM_cons, Sem.run_bind, sizeOf, typeInfo, run_program, Result.andThen_ok, hi, Sem.run_pure]
        simp only [sizeOf, typeInfo] at this
        rw [this]
        simp [h1.1, h1.2]
      · cases h1

theorem PlacesT.of {t : TypeId} {pl : List (Nat × Nat)} (h : placesB P t pl = true) : PlacesT P t pl := by
  unfold placesB at h
  split at h
  · rename_i fields hu
    refine ⟨fields, hu, fun W => ?_⟩
    rw [Array.mapM_eq_mapM_toList, Sem.run_map, placesL_run _ _ h W]
    rfl
  · cases h

theorem parts_rel {a : Act} {W : World} {α : Nat → Option (Nat × Nat)} {S : Nat → Prop} (he : EnvR α S W e a.tmps) (hg : GlobR Γ S W) : ∀ (l : List (Nat × Operand)) (ps : List (Nat × V)),
    (l.mapM fun p => (evalE Γ e p.2).map fun v => (p.1, v)) = some ps → ps.length = (l.map fun p => (p.1, a.eval p.2)).length ∧
      ∀ i (h1 : i < ps.length) (h2 : i < (l.map fun p => (p.1, a.eval p.2)).length), ps[i].1 = (l.map fun p => (p.1, a.eval p.2))[i].1 ∧ VR α S W ps[i].2 (l.map fun p => (p.1, a.eval p.2))[i].2 := by
  intro l
  induction l with
  | nil => intro ps h; simp at h; subst h; exact ⟨rfl, fun i hi => absurd hi (Nat.not_lt_zero i)⟩
  | cons p l ih =>
    intro ps h
    simp only [List.mapM_cons, Option.bind_eq_bind, Option.bind_eq_some_iff, Option.map_eq_some_iff, Option.pure_def, Option.some.injEq] at h
    obtain ⟨q, ⟨v, hv, rfl⟩, ws, hws, rfl⟩ := h
    obtain ⟨h1, h2⟩ := ih ws hws
    refine ⟨by simpa using h1, fun i hi1 hi2 => ?_⟩
    cases i with
    | zero => exact ⟨rfl, evalE_rel he hg hv⟩
    | succ i => exact h2 i (by simpa using hi1) (by simpa using hi2)

theorem op_build {t : TypeId} {parts : List (Nat × Operand)} {ps : List (Nat × V)} {pl : List (Nat × Nat)} {zs rs : List V} (hpl : PlacesT P t pl) (hz : ZeroT P t zs)
    (hp : (parts.mapM fun p => (evalE Γ e p.2).map fun v => (p.1, v)) = some ps) (hf : fillV (fun i => pl[i]?) zs ps = some rs) :
    LOp P Γ ⟨d, .build t parts.toArray, ty, pos, af, g⟩ e s (EqK (.agg rs) s) :=
  LOp.value (fun _ h => by cases h) fun a W α S B he hh => by
    obtain ⟨fields, hu, hrun⟩ := hpl
    obtain ⟨i, z, hi, hz1, rfl, hlf⟩ := hz
    have hzr : CellsR α S W (cellsV (ofConst z)) z.cells := cellsV_rel hlf (ofConst_rel α S W z)
    obtain ⟨h1, h2⟩ := parts_rel he hh.glob parts ps hp
    obtain ⟨ys, hy, hyr⟩ := fill_rel ps _ _ rs z.cells h1 h2 hzr hf
    refine ⟨.agg ys, ?_, .agg _ _ hyr.1 hyr.2⟩
    have hy' : Instr.fill (fun x => pl.toArray[x]?) z.cells (parts.map fun p => (p.1, a.eval p.2)) = some ys := by simpa using hy
    simp only [execOp, Instr.build, Sem.run_bind, zeroValue, typeInfo, run_program, Result.andThen_ok, hi, Sem.run_pure, hz1, run_underlying hu, hrun, List.map_toArray]
    rw [hy']
    rfl

def baseV (zs : List V) (n : Nat) : List V := (List.range n).map fun i => (zs[i % zs.length]?).getD .junk

theorem base_rel {α : Nat → Option (Nat × Nat)} {S : Nat → Prop} {W : World} {zs : List V} {zero : Array Value} (h : CellsR α S W zs zero) (n : Nat) (hn : n = 0 ∨ 0 < zs.length) :
    CellsR α S W (baseV zs n) ((Array.range n).map (zero[· % zero.size]!)) := by
  refine ⟨by simp [baseV], fun i hi => ?_⟩
  have hi' : i < n := by simpa [baseV] using hi
  have hz : 0 < zs.length := hn.resolve_left (by omega)
  have hm : i % zs.length < zs.length := Nat.mod_lt _ hz
  have h1 := h.2 (i % zs.length) hm
  have e1 : (baseV zs n)[i] = zs[i % zs.length] := by simp [baseV, List.getElem?_eq_getElem hm]
  have hm2 : i % zero.size < zero.size := by rw [h.1]; exact hm
  have e2 : ((Array.range n).map (zero[· % zero.size]!)).getD i undef = zero.getD (i % zs.length) undef := by
    simp only [Array.getD, Array.size_map, Array.size_range, dif_pos hi', ← h.1, dif_pos hm2]
    simp [hm2]
  rw [e1, e2]; exact h1

theorem run_buildSlice {t el : TypeId} {len k : Nat} {i : TypeInfo} {z : Value} {parts : List (Nat × Value)} {ys : Array Value} (hu : P.underlying t = some (.slice el)) (hi : P.info? el = some i) (hs : i.size = k)
    (hz : i.zero = some z) (hle : ¬ len * k > 2 ^ 24) (hy : Instr.fill (fun i => some (i * k, k)) ((Array.range (len * k)).map (z.cells[· % z.cells.size]!)) parts = some ys) (W : World) :
    (Instr.buildSlice t len parts.toArray).run P W = .ok (.slice (some ⟨W.heap.size, 0, none⟩) len len) (W.alloc (.cells ys el)) := by
  subst hs
  unfold Instr.buildSlice
  by_cases h0 : len * i.size = 0
  · have hb : ∀ f : Nat → Value, (Array.range 0).map f = #[] := fun f => by simp
    rw [h0, hb] at hy
    simp only [Sem.run_bind, run_underlying hu, Result.andThen_ok, sizeOf, typeInfo, run_program, hi, Sem.run_pure, if_neg hle]
    simp only [h0, if_true, Sem.run_bind, Sem.run_pure, Result.andThen_ok, hb, hy, newRow, run_newObj, World.alloc_eq]
  · simp only [Sem.run_bind, run_underlying hu, Result.andThen_ok, sizeOf, typeInfo, run_program, hi, Sem.run_pure, if_neg hle, if_neg h0, zeroValue, hz]
    rw [hy]
    simp [newRow]

theorem op_buildSlice {t el : TypeId} {len k : Nat} {parts : List (Nat × Operand)} {ps : List (Nat × V)} {zs rs : List V} (hu : P.underlying t = some (.slice el)) (hk : SizeT P el k) (hz : ZeroT P el zs)
    (hzl : zs.length = k) (hp : (parts.mapM fun p => (evalE Γ e p.2).map fun v => (p.1, v)) = some ps) (hf : fillV (fun i => some (i * k, k)) (baseV zs (len * k)) ps = some rs) (hle : Nat.ble (len * k) 16777216 = true) :
    LOp P Γ ⟨d, .buildSlice t len parts.toArray, ty, pos, af, g⟩ e s (EqK (.sl s.nx 0 len k) { s with hp := (s.nx, rs) :: s.hp, nx := s.nx + 1 }) := by
  intro ro m a W α S B next Q he hh hnext
  refine ⟨about_wide, ?_⟩
  rw [Oper.semAt_eq _ _ _ (fun _ h => by cases h)]
  obtain ⟨i, z, hi, hz1, rfl, hlf⟩ := hz
  obtain ⟨i2, hi2, hs⟩ := hk
  rw [hi] at hi2; cases hi2
  have hzr : CellsR α S W (cellsV (ofConst z)) z.cells := cellsV_rel hlf (ofConst_rel α S W z)
  obtain ⟨h1, h2⟩ := parts_rel he hh.glob parts ps hp
  have hle' : ¬ (len * k > 2 ^ 24) := by have := Nat.le_of_ble_eq_true hle; omega
  have hbase := base_rel hzr (len * k) (by
    rcases Nat.eq_zero_or_pos (len * k) with h | h
    · exact .inl h
    · refine .inr ?_
      rw [hzl]
      rcases Nat.eq_zero_or_pos k with hk0 | hk0
      · subst hk0; simp at h
      · exact hk0)
  obtain ⟨ys, hy, hyr⟩ := fill_rel ps _ _ rs _ h1 h2 hbase hf
  have hrl : rs.length ≤ ys.size := by have := hyr.1; omega
  have hA := hh.alloc (cs := rs) (xs := ys) (ty := el) hrl hyr.2
  have hrun := run_buildSlice hu hi hs hz1 hle' hy W
  simp only [execOp, List.map_toArray, Sem.run_bind, hrun, Result.andThen_ok, Sem.run_pure, Oper.uponIn_value]
  have hsz : ys.size = len * k := by
    have h3 : ∀ (pl : Nat → Option (Nat × Nat)) (ps : List (Nat × V)) (cs rs : List V), fillV pl cs ps = some rs → rs.length = cs.length := by
      intro pl ps
      induction ps with
      | nil => intro cs rs h; simp only [fillV, Option.some.injEq] at h; rw [h]
      | cons p ps ih =>
        intro cs rs h
        obtain ⟨j, v⟩ := p
        simp only [fillV] at h
        split at h
        · cases h
        · rename_i off size _
          cases hc : (Nat.beq (cellsV v).length size && Nat.ble (off + (cellsV v).length) cs.length && (cellsV v).all leafV) with
          | false => rw [hc] at h; cases h
          | true =>
            rw [hc] at h
            simp only [Bool.and_eq_true] at hc
            rw [ih _ _ h, splice_length _ _ _ (Nat.le_of_ble_eq_true hc.1.2)]
    have h4 := h3 _ _ _ _ hf
    have := hyr.1
    simp only [baseV, List.length_map, List.length_range] at h4
    omega
  exact hnext _ _ _ _ S _ _ ⟨rfl, rfl⟩ (.sl _ 0 len k W.heap.size 0 len (len * k) el (upd_same α s.nx W.heap.size 0) (by
    have := heap_alloc_new W (.cells ys el)
    simp only [World.shape?, this, hsz]) (by omega) (Nat.le_refl _)) hA.1 hA.2.1 hA.2.2

/-- The same, read-only from the beginning. -/
theorem op_buildSliceV {es : List I} {t el : TypeId} {len k : Nat} {parts : List (Nat × Operand)} {ps : List (Nat × V)} {zs rs : List V} (hu : P.underlying t = some (.slice el)) (hk : SizeT P el k) (hz : ZeroT P el zs)
    (hzl : zs.length = k) (hp : (parts.mapM fun p => (evalE Γ e p.2).map fun v => (p.1, v)) = some ps) (hf : fillV (fun i => some (i * k, k)) (baseV zs (len * k)) ps = some rs) (hle : Nat.ble (len * k) 16777216 = true) (hes : rs = es.map V.i) :
    LOp P Γ ⟨d, .buildSlice t len parts.toArray, ty, pos, af, g⟩ e s (EqK (.i (.vec es len k)) s) := by
  intro ro m a W α S B next Q he hh hnext
  refine ⟨about_wide, ?_⟩
  rw [Oper.semAt_eq _ _ _ (fun _ h => by cases h)]
  obtain ⟨i, z, hi, hz1, rfl, hlf⟩ := hz
  obtain ⟨i2, hi2, hs⟩ := hk
  rw [hi] at hi2; cases hi2
  have hzr : CellsR α S W (cellsV (ofConst z)) z.cells := cellsV_rel hlf (ofConst_rel α S W z)
  obtain ⟨h1, h2⟩ := parts_rel he hh.glob parts ps hp
  have hle' : ¬ (len * k > 2 ^ 24) := by have := Nat.le_of_ble_eq_true hle; omega
  have hbase := base_rel hzr (len * k) (by
    rcases Nat.eq_zero_or_pos (len * k) with h | h
    · exact .inl h
    · refine .inr ?_
      rw [hzl]
      rcases Nat.eq_zero_or_pos k with hk0 | hk0
      · subst hk0; simp at h
      · exact hk0)
  obtain ⟨ys, hy, hyr⟩ := fill_rel ps _ _ rs _ h1 h2 hbase hf
  have hrl : rs.length ≤ ys.size := by have := hyr.1; omega
  have hrun := run_buildSlice hu hi hs hz1 hle' hy W
  simp only [execOp, List.map_toArray, Sem.run_bind, hrun, Result.andThen_ok, Sem.run_pure, Oper.uponIn_value]
  have hsz : ys.size = len * k := by
    have h3 : ∀ (pl : Nat → Option (Nat × Nat)) (ps : List (Nat × V)) (cs rs : List V), fillV pl cs ps = some rs → rs.length = cs.length := by
      intro pl ps
      induction ps with
      | nil => intro cs rs h; simp only [fillV, Option.some.injEq] at h; rw [h]
      | cons p ps ih =>
        intro cs rs h
        obtain ⟨j, v⟩ := p
        simp only [fillV] at h
        split at h
        · cases h
        · rename_i off size _
          cases hc : (Nat.beq (cellsV v).length size && Nat.ble (off + (cellsV v).length) cs.length && (cellsV v).all leafV) with
          | false => rw [hc] at h; cases h
          | true =>
            rw [hc] at h
            simp only [Bool.and_eq_true] at hc
            rw [ih _ _ h, splice_length _ _ _ (Nat.le_of_ble_eq_true hc.1.2)]
    have h4 := h3 _ _ _ _ hf
    have := hyr.1
    simp only [baseV, List.length_map, List.length_range] at h4
    omega
  have hlen : es.length = len * k := by have := hyr.1; rw [hes, List.length_map] at this; omega
  have hsame : ∀ b, b < W.heap.size → (W.alloc (.cells ys el)).heap[b]? = W.heap[b]? := fun b hb => heap_alloc_old W _ b hb
  have hsize : (W.alloc (.cells ys el)).heap.size = W.heap.size + 1 := by simp
  have hS : ∀ b, S b → (S b ∨ b = W.heap.size) := fun b h => .inl h
  have hn : ∀ b, (S b ∨ b = W.heap.size) → S b ∨ (W.heap.size ≤ b ∧ b < (W.alloc (.cells ys el)).heap.size) := fun b hb => hb.imp id fun h => by omega
  refine hnext _ _ _ α (fun b => S b ∨ b = W.heap.size) B _ ⟨rfl, rfl⟩ (.i _ _ ?_) (hh.extend (by omega) hsame hS hn) (Fr.extend (W := W) (W' := W.alloc (.cells ys el)) rfl rfl rfl (by omega) hsame hS hn) (Al.refl α)
  have hcell : ∀ i, i < es.length → (W.alloc (.cells ys el)).cell? ⟨W.heap.size, 0 + i, none⟩ = some (ys.getD i undef) := fun i hi => by
    have h5 := heap_alloc_new W (.cells ys el)
    have h6 := cell_of_blk (j := 0 + i) h5 (by omega)
    rw [h6, Nat.zero_add]
  refine .vec _ _ _ _ _ _ (fun i => ys.getD i undef) (.inr rfl) hlen (Nat.le_refl _) hcell fun i hi => ?_
  have h7 := hyr.2 i (by rw [hes, List.length_map]; exact hi)
  have h8 : rs[i]'(by rw [hes, List.length_map]; exact hi) = V.i es[i] := by simp [hes]
  rw [h8] at h7
  cases h7 with
  | i _ _ h7 => exact h7.mono hS (keeps_alloc hh.sLt)

end
end Go.Ab
