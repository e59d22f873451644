/-
  The layer Ab, part 4: loads, stores, new variables, literals, places of elements.
-/
import Derived.Test.YtnfdggpfidngkaaGreatDoorAbHeap
namespace Go.Ab

def aggD : TypeDesc → Bool
  | .struct _ | .array _ _ => true
  | _ => false

/-- A type of one cell that is no struct and no array. -/
def Leaf (P : Program) (t : TypeId) : Prop := ∃ d i, P.underlying t = some d ∧ aggD d = false ∧ P.info? t = some i ∧ i.size = 1
/-- A struct or an array of n cells. -/
def AggT (P : Program) (t : TypeId) (n : Nat) : Prop := ∃ d i, P.underlying t = some d ∧ aggD d = true ∧ P.info? t = some i ∧ i.size = n
def SizeT (P : Program) (t : TypeId) (n : Nat) : Prop := ∃ i, P.info? t = some i ∧ i.size = n

def leafB (P : Program) (t : TypeId) : Bool := match P.underlying t, P.info? t with
  | some d, some i => !aggD d && i.size == 1
  | _, _ => false
theorem Leaf.of {P : Program} {t : TypeId} (h : leafB P t = true) : Leaf P t := by
  unfold leafB at h
  split at h
  · rename_i d i hd hi; simp only [Bool.and_eq_true, Bool.not_eq_true', beq_iff_eq] at h; exact ⟨d, i, hd, h.1, hi, h.2⟩
  · cases h
def aggB (P : Program) (t : TypeId) (n : Nat) : Bool := match P.underlying t, P.info? t with
  | some d, some i => aggD d && i.size == n
  | _, _ => false
theorem AggT.of {P : Program} {t : TypeId} {n : Nat} (h : aggB P t n = true) : AggT P t n := by
  unfold aggB at h
  split at h
  · rename_i d i hd hi; simp only [Bool.and_eq_true, beq_iff_eq] at h; exact ⟨d, i, hd, h.1, hi, h.2⟩
  · cases h
def sizeB (P : Program) (t : TypeId) (n : Nat) : Bool := match P.info? t with
  | some i => i.size == n
  | _ => false
theorem SizeT.of {P : Program} {t : TypeId} {n : Nat} (h : sizeB P t n = true) : SizeT P t n := by
  unfold sizeB at h
  split at h
  · rename_i i hi; exact ⟨i, hi, by simpa using h⟩
  · cases h

theorem Leaf.size {P : Program} {t : TypeId} (h : Leaf P t) : SizeT P t 1 := by obtain ⟨_, i, _, _, h1, h2⟩ := h; exact ⟨i, h1, h2⟩
theorem AggT.size {P : Program} {t : TypeId} {n : Nat} (h : AggT P t n) : SizeT P t n := by obtain ⟨_, i, _, _, h1, h2⟩ := h; exact ⟨i, h1, h2⟩

theorem run_isAgg {P : Program} {t : TypeId} {d : TypeDesc} (hu : P.underlying t = some d) (W : World) : (isAgg t).run P W = .ok (aggD d) W := by
  unfold isAgg
  rw [Sem.run_bind, run_underlying hu W]
  cases d <;> rfl

theorem run_load_leaf {P : Program} {t : TypeId} (ht : Leaf P t) {W : World} {b o : Nat} {x : Value} (hc : W.cell? ⟨b, o, none⟩ = some x) :
    (Instr.loadAt t (.pointer (some ⟨b, o, none⟩))).run P W = .ok x W := by
  obtain ⟨d, i, hu, hd, _, _⟩ := ht
  simp [Instr.loadAt, Instr.sureAddr, loadVar, run_isAgg hu, hd, hc]

theorem run_load_agg {P : Program} {t : TypeId} {n : Nat} (ht : AggT P t n) {W : World} {b o : Nat} {f : Nat → Value} (hc : ∀ j, j < n → W.cell? ⟨b, o + j, none⟩ = some (f j)) :
    (Instr.loadAt t (.pointer (some ⟨b, o, none⟩))).run P W = .ok (.agg ((List.range n).map f).toArray) W := by
  obtain ⟨d, i, hu, hd, hi, hn⟩ := ht
  have h := run_loadCells (P := P) W ⟨b, o, none⟩ n f (fun j hj => by rw [addr_add]; exact hc j hj)
  simp [Instr.loadAt, Instr.sureAddr, loadVar, run_isAgg hu, hd, sizeOf, typeInfo, hi, hn, h]

theorem range_map_getD (n : Nat) (f : Nat → Value) (i : Nat) (hi : i < n) : ((List.range n).map f).toArray.getD i undef = f i := by
  simp [Array.getD, hi]

variable {P : Program} {Γ : Glob} {e : Env} {s : Hs}
section
variable {d : Option Tmp} {ty : TypeId} {pos : String} {af : Array Edge} {g : Option (Nat × Bool)}

theorem cell_of_blk {W : World} {b j : Nat} {xs : Array Value} {t : TypeId} {fr : Nat × Nat} (h : W.heap[b]? = some (.cells xs t fr)) (hj : j < xs.size) :
    W.cell? ⟨b, j, none⟩ = some (xs.getD j undef) := by
  rw [cell_of_row W b j xs t fr h]
  simp [Array.getD, hj]

theorem HRel.blkAt {Γ : Glob} {α : Nat → Option (Nat × Nat)} {S B : Nat → Prop} {s : Hs} {W : World} (h : HRel Γ α S B s W) {id b base : Nat} {cs : List V} (hm : s.hp.lookup id = some cs)
    (hb : α id = some (b, base)) : BlkR α S W cs b base := by
  rcases h.blk id cs (mem_of_lookup hm) with ⟨b', base', h1, _, h3⟩ | ⟨_, h0⟩
  · rw [hb] at h1; cases h1; exact h3
  · rw [hb] at h0; cases h0

theorem op_load_p {t : TypeId} {x : Operand} {id off : Nat} {cs : List V} {v : V} (ht : Leaf P t) (hx : evalE Γ e x = some (.p id off)) (hm : s.hp.lookup id = some cs) (hv : cs[off]? = some v) :
    LOp P Γ ⟨d, .load t x, ty, pos, af, g⟩ e s (EqK v s) :=
  LOp.value (fun _ h => by cases h) fun a W α S B he hh => by
    have h := evalE_rel he hh.glob hx
    generalize hax : a.eval x = y at h
    cases h with
    | p _ _ b base hb =>
      obtain ⟨hlt, rfl⟩ := List.getElem?_eq_some_iff.1 hv
      obtain ⟨xs, tt, hheap, hle, hr⟩ := hh.blkAt hm hb
      exact ⟨xs.getD (base + off) undef, by simp [execOp, hax, run_load_leaf ht (cell_of_blk hheap (by omega : base + off < xs.size))], hr off hlt⟩

theorem op_load_agg_p {t : TypeId} {x : Operand} {id off n : Nat} {cs vs : List V} (ht : AggT P t n) (hx : evalE Γ e x = some (.p id off)) (hm : s.hp.lookup id = some cs)
    (hl : off + n ≤ cs.length) (hv : (cs.drop off).take n = vs) : LOp P Γ ⟨d, .load t x, ty, pos, af, g⟩ e s (EqK (.agg vs) s) :=
  LOp.value (fun _ h => by cases h) fun a W α S B he hh => by
    have h := evalE_rel he hh.glob hx
    generalize hax : a.eval x = y at h
    cases h with
    | p _ _ b base hb =>
      obtain ⟨xs, tt, hheap, hle, hr⟩ := hh.blkAt hm hb
      refine ⟨.agg ((List.range n).map fun j => xs.getD (base + off + j) undef).toArray, by simp only [execOp, hax, Sem.run_bind, run_load_agg ht (fun j hj => cell_of_blk hheap (by omega : base + off + j < xs.size)), Result.andThen_ok, Sem.run_pure], .agg _ _ ?_ ?_⟩
      · subst hv; simp; omega
      · subst hv
        intro i hi
        have hi' : i < n := by simp at hi; omega
        rw [range_map_getD n _ i hi']
        have := hr (off + i) (by omega)
        rw [Nat.add_assoc]
        simpa using this

theorem op_load_vp {t : TypeId} {x : Operand} {off : Nat} {es : List I} {v : I} (ht : Leaf P t) (hx : evalE Γ e x = some (.i (.vp es off))) (hv : es[off]? = some v) :
    LOp P Γ ⟨d, .load t x, ty, pos, af, g⟩ e s (EqK (.i v) s) :=
  LOp.value (fun _ h => by cases h) fun a W α S B he hh => by
    have h := evalE_rel he hh.glob hx
    generalize hax : a.eval x = y at h
    cases h with
    | i _ _ h => cases h with
      | vp _ _ b base xs hS hc hr =>
        obtain ⟨hlt, rfl⟩ := List.getElem?_eq_some_iff.1 hv
        exact ⟨xs off, by simp [execOp, hax, run_load_leaf ht (hc off hlt)], .i _ _ (hr off hlt)⟩

theorem op_load_agg_vp {t : TypeId} {x : Operand} {off n : Nat} {es : List I} {vs : List V} (ht : AggT P t n) (hx : evalE Γ e x = some (.i (.vp es off)))
    (hl : off + n ≤ es.length) (hv : ((es.drop off).take n).map V.i = vs) : LOp P Γ ⟨d, .load t x, ty, pos, af, g⟩ e s (EqK (.agg vs) s) :=
  LOp.value (fun _ h => by cases h) fun a W α S B he hh => by
    have h := evalE_rel he hh.glob hx
    generalize hax : a.eval x = y at h
    cases h with
    | i _ _ h => cases h with
      | vp _ _ b base xs hS hc hr =>
        refine ⟨.agg ((List.range n).map fun j => xs (off + j)).toArray, by simp only [execOp, hax, Sem.run_bind, run_load_agg ht (fun j hj => (Nat.add_assoc base off j ▸ hc (off + j) (by omega))), Result.andThen_ok, Sem.run_pure], .agg _ _ ?_ ?_⟩
        · subst hv; simp; omega
        · subst hv
          intro i hi
          have hi' : i < n := by simp at hi; omega
          rw [range_map_getD n _ i hi']
          have := hr (off + i) (by omega)
          simpa using VR.i (α := α) _ _ this

/-- May a value lie in one cell? -/
def leafV : V → Bool
  | .i (.val x) => x.oneCell'
  | .i _ => true
  | .p .. | .sl .. | .fn .. => true
  | _ => false

theorem leafV_one {α : Nat → Option (Nat × Nat)} {S : Nat → Prop} {W : World} {v : V} {x : Value} (hl : leafV v = true) (h : VR α S W v x) : x.oneCell' = true := by
  cases h with
  | i y _ h => cases h <;> first | rfl | exact hl
  | p => rfl
  | sl => rfl
  | sl0 => rfl
  | slnil => rfl
  | fn => rfl
  | agg => cases hl
  | tup => cases hl
  | cond => cases hl
  | junk => cases hl

theorem cells_of_one {x : Value} (h : x.oneCell' = true) : x.cells = #[x] := by cases x <;> first | rfl | cases h

def cellsV : V → List V
  | .agg cs => cs
  | v => [v]

theorem cellsV_rel {α : Nat → Option (Nat × Nat)} {S : Nat → Prop} {W : World} {v : V} {x : Value} (hl : (cellsV v).all leafV = true) (h : VR α S W v x) :
    x.cells.size = (cellsV v).length ∧ ∀ i (hi : i < (cellsV v).length), VR α S W (cellsV v)[i] (x.cells.getD i undef) := by
  by_cases hv : ∃ cs, v = .agg cs
  · obtain ⟨cs, rfl⟩ := hv
    cases h with | agg _ xs h1 h2 => exact ⟨h1, h2⟩
  · have hc : cellsV v = [v] := by cases v <;> first | rfl | exact absurd ⟨_, rfl⟩ hv
    have hx : x.cells = #[x] := cells_of_one (leafV_one (by rw [hc] at hl; simpa using hl) h)
    refine ⟨by simp [hx, hc], fun i hi => ?_⟩
    have hi0 : i = 0 := by simp [hc] at hi; exact hi
    subst hi0
    simpa [hx, hc] using h

theorem cells_one {α : Nat → Option (Nat × Nat)} {S : Nat → Prop} {W : World} {cs : List V} {xs : Array Value} (hl : cs.all leafV = true) (hs : xs.size = cs.length)
    (h : ∀ i (hi : i < cs.length), VR α S W cs[i] (xs.getD i undef)) : ∀ u ∈ xs.toList, u.oneCell' = true := by
  intro u hu
  obtain ⟨i, hi, rfl⟩ := List.getElem_of_mem hu
  have hi' : i < xs.size := by simpa using hi
  have := h i (by omega)
  have hg : xs.getD i undef = xs[i] := by simp [Array.getD, hi']
  rw [hg] at this
  simpa using leafV_one (List.all_eq_true.1 hl _ (List.getElem_mem _)) this

def splice {α : Type} (l : List α) (o : Nat) (m : List α) : List α := l.take o ++ m ++ l.drop (o + m.length)

theorem splice_length {α : Type} (l : List α) (o : Nat) (m : List α) (h : o + m.length ≤ l.length) : (splice l o m).length = l.length := by
  simp [splice]; omega

theorem splice_get {α : Type} (l : List α) (o : Nat) (m : List α) (h : o + m.length ≤ l.length) (i : Nat) :
    (splice l o m)[i]? = if o ≤ i ∧ i < o + m.length then m[i - o]? else l[i]? := by
  unfold splice
  by_cases h1 : i < o
  · rw [List.append_assoc, List.getElem?_append_left (by simp; omega), List.getElem?_take, if_pos h1, if_neg (by omega)]
  · by_cases h2 : i < o + m.length
    · rw [List.getElem?_append_left (by simp; omega), List.getElem?_append_right (by simp; omega), if_pos ⟨by omega, h2⟩]
      congr 1; simp; omega
    · rw [List.getElem?_append_right (by simp; omega), List.getElem?_drop, if_neg (by omega)]
      congr 1; simp; omega

theorem getD_toList (xs : Array Value) (i : Nat) : xs.getD i undef = (xs.toList[i]?).getD undef := by
  by_cases h : i < xs.size
  · simp [Array.getD, h]
  · simp [Array.getD, h]

theorem getD_toArray (l : List Value) (i : Nat) : l.toArray.getD i undef = (l[i]?).getD undef := getD_toList l.toArray i

/-- Cells of a list over cells of an array: a part is replaced at both sides. -/
theorem splice_rel {α : Nat → Option (Nat × Nat)} {S : Nat → Prop} {W : World} {cs ws : List V} {xs : Array Value} {us : List Value} {base o : Nat} (hle : base + cs.length ≤ xs.size)
    (hl : o + ws.length ≤ cs.length) (hu : us.length = ws.length) (h : ∀ i (hi : i < cs.length), VR α S W cs[i] (xs.getD (base + i) undef))
    (hw : ∀ i (hi : i < ws.length), VR α S W ws[i] ((us[i]?).getD undef)) :
    ∀ i (hi : i < (splice cs o ws).length), VR α S W (splice cs o ws)[i] ((splice xs.toList (base + o) us).toArray.getD (base + i) undef) := by
  intro i hi
  rw [splice_length _ _ _ hl] at hi
  have hg : (splice cs o ws)[i]? = some ((splice cs o ws)[i]'(by rw [splice_length _ _ _ hl]; exact hi)) := List.getElem?_eq_getElem _
  rw [splice_get _ _ _ hl] at hg
  rw [getD_toArray, splice_get _ _ _ (by simp; omega)]
  by_cases hc : o ≤ i ∧ i < o + ws.length
  · rw [if_pos hc] at hg
    rw [if_pos (by omega)]
    obtain ⟨h1, h2⟩ := List.getElem?_eq_some_iff.1 hg
    rw [← h2, show base + i - (base + o) = i - o by omega]
    exact hw (i - o) h1
  · rw [if_neg hc] at hg
    rw [if_neg (by omega)]
    obtain ⟨h1, h2⟩ := List.getElem?_eq_some_iff.1 hg
    rw [← h2]
    have := h i h1
    rw [getD_toList] at this
    exact this

theorem run_storeAt {P : Program} {t : TypeId} {n : Nat} (ht : SizeT P t n) {W : World} {b o : Nat} {xs : Array Value} {tt : TypeId} {v : Value} (hb : W.heap[b]? = some (.cells xs tt (0, 0)))
    (hn : v.cells.size = n) (hl : o + n ≤ xs.size) (h1 : ∀ u ∈ v.cells.toList, u.oneCell' = true) :
    (Instr.storeAt t (.pointer (some ⟨b, o, none⟩)) v).run P W = .ok () (W.setRow b (splice xs.toList o v.cells.toList).toArray) := by
  obtain ⟨i, hi, hs⟩ := ht
  subst hs
  have h := run_storeCells_at P b o tt v.cells.toList 0 xs W hb (by simpa [hn] using hl) h1
  simp only [Nat.add_zero] at h
  simp [Instr.storeAt, Instr.sureAddr, storeVar, sizeOf, typeInfo, hi, hn, splice] at h ⊢
  exact h

theorem op_store {t : TypeId} {x y : Operand} {id off n : Nat} {cs : List V} {v : V} (ht : SizeT P t n) (hx : evalE Γ e x = some (.p id off)) (hy : evalE Γ e y = some v)
    (hlf : (cellsV v).all leafV = true) (hn : (cellsV v).length = n) (hm : s.hp.lookup id = some cs) (hl : off + n ≤ cs.length) :
    LOp P Γ ⟨d, .store t x y, ty, pos, af, g⟩ e s (EqK .junk { s with hp := setHp s.hp id (splice cs off (cellsV v)) }) := by
  intro ro m a W α S B next Q he hh hnext
  refine ⟨about_wide, ?_⟩
  rw [Oper.semAt_eq _ _ _ (fun _ h => by cases h)]
  have h := evalE_rel he hh.glob hx
  have h2 := evalE_rel he hh.glob hy
  generalize hax : a.eval x = ya at h
  generalize hay : a.eval y = yv at h2
  cases h with
  | p _ _ b base hb =>
    obtain ⟨xs, tt, hheap, hle, hr⟩ := hh.blkAt hm hb
    obtain ⟨hsz, hcr⟩ := cellsV_rel hlf h2
    have hone := cells_one hlf hsz hcr
    have hrun := run_storeAt ht hheap (v := yv) (by omega) (by omega : base + off + n ≤ xs.size) hone
    have hlu : yv.cells.toList.length = (cellsV v).length := by simpa using hsz
    have hls : (splice xs.toList (base + off) yv.cells.toList).length = xs.size := by rw [splice_length _ _ _ (by simp; omega)]; simp
    have hlc : (splice cs off (cellsV v)).length = cs.length := splice_length _ _ _ (by omega)
    have hw := hh.write (mem_of_lookup hm) hb hheap (ys := (splice xs.toList (base + off) yv.cells.toList).toArray) (cs' := splice cs off (cellsV v))
      (by rw [List.size_toArray, hls]) (by rw [List.size_toArray, hls, hlc]; exact hle)
      (splice_rel (us := yv.cells.toList) hle (by omega) hlu hr (fun i hi => by
        have := hcr i hi
        rw [getD_toList] at this; exact this))
    simp only [execOp, hax, hay, Sem.run_bind, hrun, Result.andThen_ok, Sem.run_pure, Oper.uponIn_skip]
    exact hnext .junk _ undef α S B _ ⟨rfl, rfl⟩ (.junk _) hw.1 hw.2 (Al.refl α)

/-- What a type's zero value is, cell by cell. -/
def ZeroT (P : Program) (t : TypeId) (zs : List V) : Prop := ∃ i z, P.info? t = some i ∧ i.zero = some z ∧ cellsV (ofConst z) = zs ∧ zs.all leafV = true

def zeroB (P : Program) (t : TypeId) : Option (List V) := match P.info? t with
  | some i => match i.zero with
    | some z => if (cellsV (ofConst z)).all leafV then some (cellsV (ofConst z)) else none
    | none => none
  | none => none
theorem ZeroT.of {P : Program} {t : TypeId} {zs : List V} (h : zeroB P t = some zs) : ZeroT P t zs := by
  unfold zeroB at h
  split at h
  · rename_i i hi
    split at h
    · rename_i z hz
      split at h
      · rename_i hl; simp only [Option.some.injEq] at h; subst h; exact ⟨i, z, hi, hz, rfl, hl⟩
      · cases h
    · cases h
  · cases h

theorem op_alloc {t : TypeId} {zs : List V} (hz : ZeroT P t zs) :
    LOp P Γ ⟨d, .alloc t, ty, pos, af, g⟩ e s (EqK (.p s.nx 0) { s with hp := (s.nx, zs) :: s.hp, nx := s.nx + 1 }) := by
  intro ro m a W α S B next Q he hh hnext
  refine ⟨about_wide, ?_⟩
  rw [Oper.semAt_eq _ _ _ (fun _ h => by cases h)]
  obtain ⟨i, z, hi, hz1, rfl, hlf⟩ := hz
  obtain ⟨hsz, hcr⟩ := cellsV_rel hlf (ofConst_rel α S W z)
  have hA := hh.alloc (cs := cellsV (ofConst z)) (xs := z.cells) (ty := t) (by omega) hcr
  simp only [execOp, Instr.alloc, zeroValue, typeInfo, Sem.run_bind, run_program, hi, hz1, Sem.run_pure, Result.andThen_ok, newVar, newRow, run_newObj, World.alloc_eq, Oper.uponIn_value]
  exact hnext _ _ _ _ S _ _ ⟨rfl, rfl⟩ (.p _ 0 _ 0 (upd_same α s.nx W.heap.size 0)) hA.1 hA.2.1 hA.2.2

theorem op_box {t : TypeId} {x : Operand} {v : V} (hx : evalE Γ e x = some v) (hlf : (cellsV v).all leafV = true) :
    LOp P Γ ⟨d, .box t x, ty, pos, af, g⟩ e s (EqK (.p s.nx 0) { s with hp := (s.nx, cellsV v) :: s.hp, nx := s.nx + 1 }) := by
  intro ro m a W α S B next Q he hh hnext
  refine ⟨about_wide, ?_⟩
  rw [Oper.semAt_eq _ _ _ (fun _ h => by cases h)]
  have h := evalE_rel he hh.glob hx
  obtain ⟨hsz, hcr⟩ := cellsV_rel hlf h
  have hA := hh.alloc (cs := cellsV v) (xs := (a.eval x).cells) (ty := t) (by omega) hcr
  simp only [execOp, Instr.box, Sem.run_bind, Sem.run_pure, Result.andThen_ok, newVar, newRow, run_newObj, World.alloc_eq, Oper.uponIn_value]
  exact hnext _ _ _ _ S _ _ ⟨rfl, rfl⟩ (.p _ 0 _ 0 (upd_same α s.nx W.heap.size 0)) hA.1 hA.2.1 hA.2.2

/-- What is asked of a slice's type: its elements have k cells. -/
def SliceT (P : Program) (t : TypeId) (k : Nat) : Prop := ∃ el i, P.underlying t = some (.slice el) ∧ P.info? el = some i ∧ i.size = k
def ArrT (P : Program) (t : TypeId) (n k : Nat) : Prop := ∃ el i, P.underlying t = some (.array n el) ∧ P.info? el = some i ∧ i.size = k

def sliceB (P : Program) (t k : Nat) : Bool := match P.underlying t with
  | some (.slice el) => match P.info? el with
    | some i => i.size == k
    | none => false
  | _ => false
theorem SliceT.of {P : Program} {t : TypeId} {k : Nat} (h : sliceB P t k = true) : SliceT P t k := by
  unfold sliceB at h
  split at h
  · rename_i el hu
    split at h
    · rename_i i hi; exact ⟨el, i, hu, hi, by simpa using h⟩
    · cases h
  · cases h
def arrB (P : Program) (t n k : Nat) : Bool := match P.underlying t with
  | some (.array m el) => match P.info? el with
    | some i => m == n && i.size == k
    | none => false
  | _ => false
theorem ArrT.of {P : Program} {t : TypeId} {n k : Nat} (h : arrB P t n k = true) : ArrT P t n k := by
  unfold arrB at h
  split at h
  · rename_i m el hu
    split at h
    · rename_i i hi; simp only [Bool.and_eq_true, beq_iff_eq] at h; obtain ⟨rfl, h2⟩ := h; exact ⟨el, i, hu, hi, h2⟩
    · cases h
  · cases h

theorem op_indexAddr_sl {t : TypeId} {x y : Operand} {id off len k : Nat} {kk : IntKind} {n : Int} {j : Nat} (ht : SliceT P t k) (hx : evalE Γ e x = some (.sl id off len k))
    (hy : evalE Γ e y = some (.i (.int kk n))) (hj : n = j) (hl : j < len) : LOp P Γ ⟨d, .indexAddr t x y, ty, pos, af, g⟩ e s (EqK (.p id (off + j * k)) s) :=
  LOp.value (fun _ h => by cases h) fun a W α S B he hh => by
    have h := evalE_rel he hh.glob hx
    have hay := (evalE_rel he hh.glob hy).int_inv
    generalize hax : a.eval x = yx at h
    obtain ⟨el, i, hu, hi, hs⟩ := ht
    subst hj
    cases h with
    | sl _ _ _ _ b base cap N tt hb hsh hN hc =>
      exact ⟨.pointer (some ⟨b, base + (off + j * k), none⟩), by simp [execOp, hax, hay, Instr.indexAt, asIntOf, run_underlying hu, hl, sizeOf, typeInfo, hi, hs, addr_add, Nat.add_assoc], .p _ _ b base hb⟩
    | sl0 => omega
    | slnil => omega

theorem op_indexAddr_vec {t : TypeId} {x y : Operand} {es : List I} {len k : Nat} {kk : IntKind} {n : Int} {j : Nat} (ht : SliceT P t k) (hx : evalE Γ e x = some (.i (.vec es len k)))
    (hy : evalE Γ e y = some (.i (.int kk n))) (hj : n = j) (hl : j < len) : LOp P Γ ⟨d, .indexAddr t x y, ty, pos, af, g⟩ e s (EqK (.i (.vp es (j * k))) s) :=
  LOp.value (fun _ h => by cases h) fun a W α S B he hh => by
    have h := evalE_rel he hh.glob hx
    have hay := (evalE_rel he hh.glob hy).int_inv
    generalize hax : a.eval x = yx at h
    obtain ⟨el, i, hu, hi, hs⟩ := ht
    subst hj
    cases h with
    | i _ _ h => cases h with
      | nil => omega
      | emp => omega
      | vec _ _ _ b off cap xs hS hle hc hcell hr =>
        exact ⟨_, by simp [execOp, hax, hay, Instr.indexAt, asIntOf, run_underlying hu, hl, sizeOf, typeInfo, hi, hs, addr_add], .i _ _ (.vp es (j * k) b off xs hS hcell hr)⟩

theorem op_indexAddr_arr {t : TypeId} {x y : Operand} {id off len k : Nat} {kk : IntKind} {n : Int} {j : Nat} (ht : ArrT P t len k) (hx : evalE Γ e x = some (.p id off))
    (hy : evalE Γ e y = some (.i (.int kk n))) (hj : n = j) (hl : j < len) : LOp P Γ ⟨d, .indexAddr t x y, ty, pos, af, g⟩ e s (EqK (.p id (off + j * k)) s) :=
  LOp.value (fun _ h => by cases h) fun a W α S B he hh => by
    have h := evalE_rel he hh.glob hx
    have hay := (evalE_rel he hh.glob hy).int_inv
    generalize hax : a.eval x = yx at h
    obtain ⟨el, i, hu, hi, hs⟩ := ht
    subst hj
    cases h with
    | p _ _ b base hb =>
      exact ⟨.pointer (some ⟨b, base + (off + j * k), none⟩), by simp [execOp, hax, hay, Instr.indexAt, Instr.sureAddr, asIntOf, run_underlying hu, hl, sizeOf, typeInfo, hi, hs, addr_add, Nat.add_assoc], .p _ _ b base hb⟩

theorem op_indexAddr_varr {t : TypeId} {x y : Operand} {es : List I} {off len k : Nat} {kk : IntKind} {n : Int} {j : Nat} (ht : ArrT P t len k) (hx : evalE Γ e x = some (.i (.vp es off)))
    (hy : evalE Γ e y = some (.i (.int kk n))) (hj : n = j) (hl : j < len) : LOp P Γ ⟨d, .indexAddr t x y, ty, pos, af, g⟩ e s (EqK (.i (.vp es (off + j * k))) s) :=
  LOp.value (fun _ h => by cases h) fun a W α S B he hh => by
    have h := evalE_rel he hh.glob hx
    have hay := (evalE_rel he hh.glob hy).int_inv
    generalize hax : a.eval x = yx at h
    obtain ⟨el, i, hu, hi, hs⟩ := ht
    subst hj
    cases h with
    | i _ _ h => cases h with
      | vp _ _ b base xs hS hcell hr =>
        exact ⟨.pointer (some ⟨b, base + (off + j * k), none⟩), by simp [execOp, hax, hay, Instr.indexAt, Instr.sureAddr, asIntOf, run_underlying hu, hl, sizeOf, typeInfo, hi, hs, addr_add, Nat.add_assoc], .i _ _ (.vp es _ b base xs hS hcell hr)⟩

end
end Go.Ab
