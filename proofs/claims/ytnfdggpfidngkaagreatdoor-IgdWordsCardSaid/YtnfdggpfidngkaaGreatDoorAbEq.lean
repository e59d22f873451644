/-
  The layer Ab, part 16: arrays told cell by cell, slices against nil, and 'a == b' of structs.
-/
import Derived.Test.YtnfdggpfidngkaaGreatDoorAbSpec
import Derived.DeepKeys
import Derived.Laws.Cover3
namespace Go.Ab

section
variable {P : Program} {Γ : Glob} {e : Env} {s : Hs} {d : Option Tmp} {ty : TypeId} {pos : String} {af : Array Edge} {g : Option (Nat × Bool)}

theorem op_buildArr {t : TypeId} {n k : Nat} {parts : List (Nat × Operand)} {ps : List (Nat × V)} {zs rs : List V} (ha : ArrT P t n k) (hz : ZeroT P t zs)
    (hp : (parts.mapM fun p => (evalE Γ e p.2).map fun v => (p.1, v)) = some ps) (hf : fillV (fun i => some (i * k, k)) zs ps = some rs) :
    LOp P Γ ⟨d, .build t parts.toArray, ty, pos, af, g⟩ e s (EqK (.agg rs) s) :=
  LOp.value (fun _ h => by cases h) fun a W α S B he hh => by
    obtain ⟨el, i2, hu, hi2, rfl⟩ := ha
    obtain ⟨i, z, hi, hz1, rfl, hlf⟩ := hz
    have hzr : CellsR α S W (cellsV (ofConst z)) z.cells := cellsV_rel hlf (ofConst_rel α S W z)
    obtain ⟨h1, h2⟩ := parts_rel he hh.glob parts ps hp
    obtain ⟨ys, hy, hyr⟩ := fill_rel ps _ _ rs z.cells h1 h2 hzr hf
    refine ⟨.agg ys, ?_, .agg _ _ hyr.1 hyr.2⟩
    simp only [execOp, Instr.build, Sem.run_bind, zeroValue, typeInfo, sizeOf, run_program, Result.andThen_ok, hi, hi2, Sem.run_pure, hz1, run_underlying hu, List.map_toArray]
    rw [hy]
    rfl

/-! Lists with nil slices in them. -/

inductive WeakI : List I → List I → Prop
  | nil : WeakI [] []
  | same (i : I) {a b : List I} (h : WeakI a b) : WeakI (i :: a) (i :: b)
  | nl (k : Nat) {a b : List I} (h : WeakI a b) : WeakI (.val (.slice none 0 0) :: a) (.vec [] 0 k :: b)
theorem WeakI.spec {a b : List I} (h : WeakI a b) : a.length = b.length ∧ ∀ S W i (h1 : i < a.length) (h2 : i < b.length) x, IR S W a[i] x → IR S W b[i] x := by
  induction h with
  | nil => exact ⟨rfl, fun S W i h => absurd h (Nat.not_lt_zero i)⟩
  | same j _ ih => exact ⟨by simp [ih.1], fun S W i h1 h2 x hx => by
      cases i with
      | zero => exact hx
      | succ i => exact ih.2 S W i (by simpa using h1) (by simpa using h2) x hx⟩
  | nl k _ ih => exact ⟨by simp [ih.1], fun S W i h1 h2 x hx => by
      cases i with
      | zero => cases hx with | val => exact .nil k
      | succ i => exact ih.2 S W i (by simpa using h1) (by simpa using h2) x hx⟩
theorem Weak.vec {a b : List I} {n k : Nat} (h : WeakI a b) : Weak (.i (.vec a n k)) (.i (.vec b n k)) := fun α S W x hx => by
  have hl := h.spec.1
  cases hx with
  | i _ _ hx => cases hx with
    | nil => cases h; exact .i _ _ (.nil _)
    | emp => cases h; exact .i _ _ (.emp _ _ _ _)
    | vec _ _ _ c off cap xs hS hl2 hc hx hr => exact .i _ _ (.vec _ _ _ c off cap xs hS (by omega) hc (fun i hi => hx i (by omega)) fun i hi => h.spec.2 S W i (by omega) hi _ (hr i (by omega)))
theorem LOp.weak {o : Oper} {v w : V} {s' : Hs} (h : LOp P Γ o e s (EqK v s')) (hw : Weak v w) : LOp P Γ o e s (EqK w s') := by
  intro ro m a W α S B next Q he hh hn
  exact h ro m a W α S B next Q he hh fun v1 s1 x α' S' B' W' hk hv => by
    obtain ⟨rfl, rfl⟩ := hk
    exact hn _ _ x α' S' B' W' ⟨rfl, rfl⟩ (hw _ _ _ _ hv)

/-! A slice against nil. -/

def both {β : Type} [DecidableEq β] (f : Bool → Option β) : Option β := bif decide (f true = f false) then f true else none
def nilq {α β : Type} [DecidableEq β] (l : List α) (f : Bool → Option β) : Option β := bif l.isEmpty then both f else f false
theorem nilq_some {α β : Type} [DecidableEq β] {l : List α} {f : Bool → Option β} {r : β} (h : nilq l f = some r) (b : Bool) (hb : 0 < l.length → b = false) : f b = some r := by
  unfold nilq at h
  cases l with
  | nil =>
    simp only [List.isEmpty_nil, cond_true, both] at h
    cases hd : decide (f true = f false) with
    | true =>
      rw [hd] at h
      have := of_decide_eq_true hd
      cases b
      · rw [← this]; exact h
      · exact h
    | false => rw [hd] at h; cases h
  | cons x l =>
    rw [hb (by simp)]; exact h

theorem slice_isNone {es : List I} {n k : Nat} {α : Nat → Option (Nat × Nat)} {S : Nat → Prop} {W : World} {x : Value} (h : VR α S W (.i (.vec es n k)) x) : ∃ a l c, x = .slice a l c ∧ (0 < n → a.isNone = false) := by
  cases h with
  | i _ _ h => cases h with
    | nil => exact ⟨_, _, _, rfl, fun h => absurd h (Nat.lt_irrefl 0)⟩
    | emp => exact ⟨_, _, _, rfl, fun h => absurd h (Nat.lt_irrefl 0)⟩
    | vec => exact ⟨_, _, _, rfl, fun _ => rfl⟩

def NilK (n : Nat) (s : Hs) : V → Hs → Prop := fun v s' => ∃ b, v = .i (.bool b) ∧ (0 < n → b = false) ∧ s' = s
def NilKn (n : Nat) (s : Hs) : V → Hs → Prop := fun v s' => ∃ b, v = .i (.bool (!b)) ∧ (0 < n → b = false) ∧ s' = s

theorem LOp.valueK {o : Oper} {K : V → Hs → Prop} (hd : ∀ c, o.op ≠ .defer c)
    (h : ∀ (a : Act) (W : World) (α : Nat → Option (Nat × Nat)) (S B : Nat → Prop), EnvR α S W e a.tmps → HRel Γ α S B s W → ∃ x v, (execOp a.eval o).run P W = .ok (.value x) W ∧ VR α S W v x ∧ K v s) :
    LOp P Γ o e s K := by
  intro ro m a W α S B next Q he hh hn
  obtain ⟨x, v, hx, hv, hk⟩ := h a W α S B he hh
  refine ⟨about_wide, ?_⟩
  rw [Oper.semAt_eq _ _ _ hd, hx]
  exact hn v s x α S B W hk hv hh (Fr.refl S B W) (Al.refl α)

theorem op_eql_vec_nil {t t2 el : TypeId} {x y : Operand} {es : List I} {n k : Nat} (ht : P.underlying t = some (.slice el)) (hx : evalE Γ e x = some (.i (.vec es n k))) (hy : evalE Γ e y = some (.i (.val (.slice none 0 0)))) :
    LOp P Γ ⟨d, .binOp .eql t x y t2, ty, pos, af, g⟩ e s (NilK n s) :=
  LOp.valueK (fun _ h => by cases h) fun ac W α S B he hh => by
    obtain ⟨a, l, c, h1, h0⟩ := slice_isNone (evalE_rel he hh.glob hx)
    have h2 := (evalE_rel he hh.glob hy).val_inv
    refine ⟨.bool a.isNone, _, ?_, .i _ _ (.bool _), a.isNone, rfl, h0, rfl⟩
    simp only [execOp, h1, h2, Sem.run_bind, run_eqGuard_slice, Result.andThen_ok, binOp, Op.equal, Sem.run_pure]
    rw [show Op.maxDepth = 9999 + 1 from rfl, run_equalIn_slice_nil W _ t el _ _ _ ht]; rfl

theorem op_neq_vec_nil {t t2 el : TypeId} {x y : Operand} {es : List I} {n k : Nat} (ht : P.underlying t = some (.slice el)) (hx : evalE Γ e x = some (.i (.vec es n k))) (hy : evalE Γ e y = some (.i (.val (.slice none 0 0)))) :
    LOp P Γ ⟨d, .binOp .neq t x y t2, ty, pos, af, g⟩ e s (NilKn n s) :=
  LOp.valueK (fun _ h => by cases h) fun ac W α S B he hh => by
    obtain ⟨a, l, c, h1, h0⟩ := slice_isNone (evalE_rel he hh.glob hx)
    have h2 := (evalE_rel he hh.glob hy).val_inv
    refine ⟨.bool (!a.isNone), _, ?_, .i _ _ (.bool _), a.isNone, rfl, h0, rfl⟩
    simp only [execOp, h1, h2, Sem.run_bind, run_eqGuard_slice, Result.andThen_ok, binOp, Op.equal, Sem.run_pure]
    rw [show Op.maxDepth = 9999 + 1 from rfl, run_equalIn_slice_nil W _ t el _ _ _ ht]; rfl

/-! 'a == b' of structs whose cells are numbers, truths and texts. -/

def litI : I → Option Value
  | .int k n => some (.int k n)
  | .bool b => some (.bool b)
  | .str l => some (.string ⟨l.toArray⟩)
  | _ => none

theorem litI_rel {S : Nat → Prop} {W : World} {i : I} {x v : Value} (h : IR S W i x) (hv : litI i = some v) : x = v := by
  cases h <;> simp_all [litI]

theorem litI_agg {α : Nat → Option (Nat × Nat)} {S : Nat → Prop} {W : World} {is : List I} {vs : List Value} {x : Value} (h : VR α S W (.agg (is.map V.i)) x) (hv : is.mapM litI = some vs) : x = .agg vs.toArray := by
  cases h with
  | agg _ xs hl hr =>
    congr 1
    have hlen : ∀ (is : List I) (vs : List Value), is.mapM litI = some vs → vs.length = is.length := fun is => by
      induction is with
      | nil => intro vs h; simp at h; subst h; rfl
      | cons i is ih =>
        intro vs h
        rw [List.mapM_cons] at h
        simp only [bind, Option.bind_eq_some_iff, pure, Option.some.injEq] at h
        obtain ⟨a, _, b, h2, rfl⟩ := h
        simp [ih b h2]
    have hget : ∀ (is : List I) (vs : List Value), is.mapM litI = some vs → ∀ i (h1 : i < is.length) (h2 : i < vs.length), litI is[i] = some vs[i] := fun is => by
      induction is with
      | nil => intro vs h i h1; cases h1
      | cons j is ih =>
        intro vs h i h1 h2
        rw [List.mapM_cons] at h
        simp only [bind, Option.bind_eq_some_iff, pure, Option.some.injEq] at h
        obtain ⟨a, h3, b, h4, rfl⟩ := h
        cases i with
        | zero => exact h3
        | succ i => exact ih b h4 i (by simpa using h1) (by simpa using h2)
    have hl' : xs.size = vs.length := by rw [hl, List.length_map, hlen _ _ hv]
    apply Array.ext (by simpa using hl')
    intro i h1 h2
    have h3 : i < vs.length := by omega
    have h4 : i < is.length := by rw [← hlen _ _ hv]; exact h3
    have h5 := hr i (by simpa using h4)
    simp only [List.getElem_map] at h5
    cases h5 with
    | i _ _ h5 =>
      have h6 := litI_rel h5 (hget _ _ hv i h4 h3)
      simp only [Array.getD, h1, dif_pos] at h6
      simpa using h6

theorem op_eql_agg {t t2 : TypeId} {m D : Nat} {x y : Operand} {is js : List I} {vs ws : List Value} {la lb : List Lit} {b : Bool} (hk : P.keyTypeAt m t = true) (hm : Nat.ble m 10000 = true) (hg0 : P.eqGuardType P.depth t = false)
    (hx : evalE Γ e x = some (.agg (is.map V.i))) (hy : evalE Γ e y = some (.agg (js.map V.i))) (hv : is.mapM litI = some vs) (hw : js.mapM litI = some ws)
    (fa : (Value.agg vs.toArray).formed P t = true) (fb : (Value.agg ws.toArray).formed P t = true) (ka : P.keyLits D t vs = some la) (kb : P.keyLits D t ws = some lb) (hb : b = true ↔ la = lb) :
    LOp P Γ ⟨d, .binOp .eql t x y t2, ty, pos, af, g⟩ e s (EqK (.i (.bool b)) s) :=
  LOp.value (fun _ h => by cases h) fun ac W α S B he hh => by
    have h1 := litI_agg (evalE_rel he hh.glob hx) hv
    have h2 := litI_agg (evalE_rel he hh.glob hy) hw
    obtain ⟨r, hr, hiff⟩ := run_equalIn_deep (P := P) (10000 - m) m t hk W D D _ _ la lb fa fb (by simpa [Value.cells] using ka) (by simpa [Value.cells] using kb)
    have hd : 10000 - m + m = 10000 := by have := Nat.le_of_ble_eq_true hm; omega
    rw [hd] at hr
    have hrb : r = b := by
      cases r <;> cases b <;> simp_all
    subst hrb
    refine ⟨.bool r, ?_, .i _ _ (.bool _)⟩
    simp only [execOp, h1, h2, Sem.run_bind, run_eqGuard_agg W .eql t x y _ _ hg0, Result.andThen_ok, run_eql_struct, hr, Sem.run_pure]

theorem op_neq_agg {t t2 : TypeId} {m D : Nat} {x y : Operand} {is js : List I} {vs ws : List Value} {la lb : List Lit} {b : Bool} (hk : P.keyTypeAt m t = true) (hm : Nat.ble m 10000 = true) (hg0 : P.eqGuardType P.depth t = false)
    (hx : evalE Γ e x = some (.agg (is.map V.i))) (hy : evalE Γ e y = some (.agg (js.map V.i))) (hv : is.mapM litI = some vs) (hw : js.mapM litI = some ws)
    (fa : (Value.agg vs.toArray).formed P t = true) (fb : (Value.agg ws.toArray).formed P t = true) (ka : P.keyLits D t vs = some la) (kb : P.keyLits D t ws = some lb) (hb : b = true ↔ la = lb) :
    LOp P Γ ⟨d, .binOp .neq t x y t2, ty, pos, af, g⟩ e s (EqK (.i (.bool (!b))) s) :=
  LOp.value (fun _ h => by cases h) fun ac W α S B he hh => by
    have h1 := litI_agg (evalE_rel he hh.glob hx) hv
    have h2 := litI_agg (evalE_rel he hh.glob hy) hw
    obtain ⟨r, hr, hiff⟩ := run_equalIn_deep (P := P) (10000 - m) m t hk W D D _ _ la lb fa fb (by simpa [Value.cells] using ka) (by simpa [Value.cells] using kb)
    have hd : 10000 - m + m = 10000 := by have := Nat.le_of_ble_eq_true hm; omega
    rw [hd] at hr
    have hrb : r = b := by
      cases r <;> cases b <;> simp_all
    subst hrb
    refine ⟨.bool (!r), ?_, .i _ _ (.bool _)⟩
    simp only [execOp, h1, h2, Sem.run_bind, run_eqGuard_agg W .neq t x y _ _ hg0, Result.andThen_ok, run_neq_struct, hr, Sem.run_pure]

end
end Go.Ab
