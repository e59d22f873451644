/-
  The layer Ab, part 2: what an operation is said to do (LOp), and the operations that write nothing.
-/
import Derived.Test.YtnfdggpfidngkaaGreatDoorAbBase
namespace Go.Ab

def leafOf : Value → I
  | .int k n => .int k n
  | .bool b => .bool b
  | .string s => .str s.data.toList
  | x => .val x

def ofConst : Value → V
  | .agg cs => .agg (cs.toList.map fun c => .i (leafOf c))
  | .tuple cs => .tup (cs.toList.map fun c => .i (leafOf c))
  | x => .i (leafOf x)

theorem str_eta (s : ByteArray) : (⟨s.data.toList.toArray⟩ : ByteArray) = s := by cases s; simp

theorem leafOf_rel (S : Nat → Prop) (W : World) (x : Value) : IR S W (leafOf x) x := by
  cases x with
  | int k n => exact .int k n
  | bool b => exact .bool b
  | string s => have h := IR.str (S := S) (W := W) s.data.toList; rw [str_eta] at h; exact h
  | _ => exact .val _

theorem list_rel (α : Nat → Option (Nat × Nat)) (S : Nat → Prop) (W : World) (cs : Array Value) :
    ∀ i (h : i < (cs.toList.map fun c => V.i (leafOf c)).length), VR α S W (cs.toList.map fun c => V.i (leafOf c))[i] (cs.getD i undef) := by
  intro i h
  have hi : i < cs.size := by simpa using h
  have : cs.getD i undef = cs[i] := by simp [Array.getD, hi]
  rw [this]
  simp only [List.getElem_map, Array.getElem_toList]
  exact .i _ _ (leafOf_rel S W _)

theorem ofConst_rel (α : Nat → Option (Nat × Nat)) (S : Nat → Prop) (W : World) (x : Value) : VR α S W (ofConst x) x := by
  cases x with
  | agg cs => exact .agg _ _ (by simp) (list_rel α S W cs)
  | tuple cs => exact .tup _ _ (by simp) (list_rel α S W cs)
  | _ => exact .i _ _ (leafOf_rel S W _)

abbrev Env := List (Nat × V)

def evalE (Γ : Glob) (e : Env) : Operand → Option V
  | .tmp t => e.lookup t
  | .const x => some (ofConst x)
  | .global g => (Γ g).map fun cs => .i (.vp cs 0)
  | .func f => some (.i (.fn (.func f) [] []))

def EnvR (α : Nat → Option (Nat × Nat)) (S : Nat → Prop) (W : World) (e : Env) (tmps : Array Value) : Prop :=
  ∀ t v, e.lookup t = some v → VR α S W v (tmps.getD t undef)

theorem fn_rel (S : Nat → Prop) (W : World) (f : FuncId) : IR S W (.fn (.func f) [] []) (.func (.func f) #[] #[]) :=
  .fn _ _ _ _ _ rfl rfl (fun i h => absurd h (Nat.not_lt_zero i)) (fun i h => absurd h (Nat.not_lt_zero i))

theorem evalE_rel {Γ : Glob} {α : Nat → Option (Nat × Nat)} {S : Nat → Prop} {W : World} {e : Env} {a : Act} (he : EnvR α S W e a.tmps) (hg : GlobR Γ S W) {x : Operand} {v : V}
    (h : evalE Γ e x = some v) : VR α S W v (a.eval x) := by
  cases x with
  | tmp t => exact he t v h
  | const c => simp only [evalE, Option.some.injEq] at h; subst h; exact ofConst_rel α S W c
  | func f => simp only [evalE, Option.some.injEq] at h; subst h; exact .i _ _ (fn_rel S W f)
  | global g =>
    simp only [evalE, Option.map_eq_some_iff] at h
    obtain ⟨cs, hc, rfl⟩ := h
    obtain ⟨hS, hcell⟩ := hg g cs hc
    refine .i _ _ ?_
    have key : ∀ i, ∃ x, ∀ (h : i < cs.length), W.cell? ⟨g, i, none⟩ = some x ∧ IR S W cs[i] x := fun i => by
      by_cases h : i < cs.length
      · obtain ⟨x, hx⟩ := hcell i h; exact ⟨x, fun _ => hx⟩
      · exact ⟨undef, fun h' => absurd h' h⟩
    have : (a.eval (.global g)) = .pointer (some ⟨g, 0 + 0, none⟩) := rfl
    rw [this]
    exact .vp cs 0 g 0 (fun i => (key i).choose) hS (fun i hi => by rw [Nat.zero_add]; exact ((key i).choose_spec hi).1) (fun i hi => ((key i).choose_spec hi).2)

/-- The fence in whose walks all is said: the wide one, in a round or in none. -/
def Fe (ro : Option Nat) : Fence := { fn := fun _ => True, depth := none, alive := false, round := ro }

/-- What an operation does: from whatever world stands for the temporaries e and the memory s, it goes on with a value and a memory that K lets. -/
def LOp (P : Program) (Γ : Glob) (o : Oper) (e : Env) (s : Hs) (K : V → Hs → Prop) : Prop :=
  ∀ (ro : Option Nat) (m : Nat) (a : Act) (W : World) (α : Nat → Option (Nat × Nat)) (S B : Nat → Prop) (next : Act → World → Prop) (Q : Exit → Act → World → Prop),
    EnvR α S W e a.tmps → HRel Γ α S B s W →
    (∀ v s' x α' S' B' W', K v s' → VR α' S' W' v x → HRel Γ α' S' B' s' W' → Fr S B W S' B' W' → Al α α' → next (a.put o.dst x) W') →
    o.wpIn (Fe ro) m P a W next Q

def EqK (v : V) (s : Hs) : V → Hs → Prop := fun v' s' => v' = v ∧ s' = s

theorem LOp.mono {P : Program} {Γ : Glob} {o : Oper} {e : Env} {s : Hs} {K K' : V → Hs → Prop} (h : LOp P Γ o e s K) (hk : ∀ v s', K v s' → K' v s') : LOp P Γ o e s K' :=
  fun ro m a W α S B next Q he hh hn => h ro m a W α S B next Q he hh fun v s' x α' S' B' W' k => hn v s' x α' S' B' W' (hk v s' k)

theorem about_wide {P : Program} {o : Oper} {a : Act} {W : World} {ro : Option Nat} : ∀ f, o.about P W a.eval = some f → (Fe ro).fn f := fun _ _ => trivial

variable {P : Program} {Γ : Glob} {e : Env} {s : Hs}

/-- An operation that only computes. -/
theorem LOp.value {o : Oper} {v : V} (hd : ∀ c, o.op ≠ .defer c)
    (h : ∀ (a : Act) (W : World) (α : Nat → Option (Nat × Nat)) (S B : Nat → Prop), EnvR α S W e a.tmps → HRel Γ α S B s W → ∃ x, (execOp a.eval o).run P W = .ok (.value x) W ∧ VR α S W v x) :
    LOp P Γ o e s (EqK v s) := by
  intro ro m a W α S B next Q he hh hn
  obtain ⟨x, hx, hv⟩ := h a W α S B he hh
  refine ⟨about_wide, ?_⟩
  rw [Oper.semAt_eq _ _ _ hd, hx]
  exact hn v s x α S B W ⟨rfl, rfl⟩ hv hh (Fr.refl S B W) (Al.refl α)

section
variable {d : Option Tmp} {ty : TypeId} {pos : String} {af : Array Edge} {g : Option (Nat × Bool)}

theorem op_move {x : Operand} {v : V} (hx : evalE Γ e x = some v) : LOp P Γ ⟨d, .move x, ty, pos, af, g⟩ e s (EqK v s) :=
  LOp.value (fun _ h => by cases h) fun a W α S B he hh => ⟨a.eval x, rfl, evalE_rel he hh.glob hx⟩

theorem op_assign {x : Operand} {v : V} (hx : evalE Γ e x = some v) : LOp P Γ ⟨d, .assign x, ty, pos, af, g⟩ e s (EqK v s) :=
  LOp.value (fun _ h => by cases h) fun a W α S B he hh => ⟨a.eval x, rfl, evalE_rel he hh.glob hx⟩

theorem VR.bool_inv {α : Nat → Option (Nat × Nat)} {S : Nat → Prop} {W : World} {b : Bool} {x : Value} (h : VR α S W (.i (.bool b)) x) : x = .bool b := by
  cases h with | i _ _ h => cases h; rfl
theorem VR.int_inv {α : Nat → Option (Nat × Nat)} {S : Nat → Prop} {W : World} {k : IntKind} {n : Int} {x : Value} (h : VR α S W (.i (.int k n)) x) : x = .int k n := by
  cases h with | i _ _ h => cases h; rfl
theorem VR.str_inv {α : Nat → Option (Nat × Nat)} {S : Nat → Prop} {W : World} {l : Str} {x : Value} (h : VR α S W (.i (.str l)) x) : x = .string ⟨l.toArray⟩ := by
  cases h with | i _ _ h => cases h; rfl
theorem VR.val_inv {α : Nat → Option (Nat × Nat)} {S : Nat → Prop} {W : World} {y x : Value} (h : VR α S W (.i (.val y)) x) : x = y := by
  cases h with | i _ _ h => cases h; rfl

theorem op_pick_true {c x y : Operand} {v : V} (hc : evalE Γ e c = some (.i (.bool true))) (hx : evalE Γ e x = some v) : LOp P Γ ⟨d, .pick c x y, ty, pos, af, g⟩ e s (EqK v s) :=
  LOp.value (fun _ h => by cases h) fun a W α S B he hh => ⟨a.eval x, by
    have h := (evalE_rel he hh.glob hc).bool_inv
    simp [execOp, h, asBool], evalE_rel he hh.glob hx⟩

theorem op_pick_false {c x y : Operand} {v : V} (hc : evalE Γ e c = some (.i (.bool false))) (hx : evalE Γ e y = some v) : LOp P Γ ⟨d, .pick c x y, ty, pos, af, g⟩ e s (EqK v s) :=
  LOp.value (fun _ h => by cases h) fun a W α S B he hh => ⟨a.eval y, by
    have h := (evalE_rel he hh.glob hc).bool_inv
    simp [execOp, h, asBool], evalE_rel he hh.glob hx⟩

/-- 'a && b'. -/
theorem op_pick_and {c x y : Operand} {b r : Bool} (hc : evalE Γ e c = some (.i (.bool b))) (hx : evalE Γ e x = some (.cond b (.i (.bool r)))) (hy : evalE Γ e y = some (.i (.bool false))) :
    LOp P Γ ⟨d, .pick c x y, ty, pos, af, g⟩ e s (EqK (.i (.bool (b && r))) s) :=
  LOp.value (fun _ h => by cases h) fun a W α S B he hh => by
    have h := (evalE_rel he hh.glob hc).bool_inv
    have h1 := evalE_rel he hh.glob hx
    have h2 := (evalE_rel he hh.glob hy).bool_inv
    refine ⟨.bool (b && r), ?_, .i _ _ (.bool _)⟩
    cases b with
    | true =>
      cases h1 with | cond _ _ _ h1 => simp [execOp, h, asBool, (h1 rfl).bool_inv]
    | false => simp [execOp, h, asBool, h2]

/-- 'a || b'. -/
theorem op_pick_or {c x y : Operand} {b r : Bool} (hc : evalE Γ e c = some (.i (.bool b))) (hx : evalE Γ e x = some (.i (.bool true))) (hy : evalE Γ e y = some (.cond (!b) (.i (.bool r)))) :
    LOp P Γ ⟨d, .pick c x y, ty, pos, af, g⟩ e s (EqK (.i (.bool (b || r))) s) :=
  LOp.value (fun _ h => by cases h) fun a W α S B he hh => by
    have h := (evalE_rel he hh.glob hc).bool_inv
    have h1 := evalE_rel he hh.glob hy
    have h2 := (evalE_rel he hh.glob hx).bool_inv
    refine ⟨.bool (b || r), ?_, .i _ _ (.bool _)⟩
    cases b with
    | true => simp [execOp, h, asBool, h2]
    | false =>
      cases h1 with | cond _ _ _ h1 => simp [execOp, h, asBool, (h1 rfl).bool_inv]

theorem op_extract {x : Operand} {cs : List V} {k : Nat} {v : V} (hx : evalE Γ e x = some (.tup cs)) (hk : cs[k]? = some v) : LOp P Γ ⟨d, .extract x k, ty, pos, af, g⟩ e s (EqK v s) :=
  LOp.value (fun _ h => by cases h) fun a W α S B he hh => by
    have h := evalE_rel he hh.glob hx
    generalize hax : a.eval x = y at h
    cases h with
    | tup _ xs hl hr =>
      obtain ⟨hlt, rfl⟩ := List.getElem?_eq_some_iff.1 hk
      have hlt' : k < xs.size := by omega
      have hg : xs.getD k undef = xs[k] := by simp [Array.getD, hlt']
      have hr' := hr k hlt
      rw [hg] at hr'
      refine ⟨xs[k], ?_, hr'⟩
      simp [execOp, hax, Instr.extract, hlt']

/-- A pointer that is none of nil. -/
inductive IsPtr : V → Prop
  | p (id off : Nat) : IsPtr (.p id off)
  | vp (es : List I) (off : Nat) : IsPtr (.i (.vp es off))

theorem IsPtr.some {α : Nat → Option (Nat × Nat)} {S : Nat → Prop} {W : World} {v : V} {x : Value} (hp : IsPtr v) (h : VR α S W v x) : ∃ b o, x = .pointer (some ⟨b, o, none⟩) := by
  cases hp with
  | p id off => cases h with | p _ _ b base h => exact ⟨b, base + off, rfl⟩
  | vp es off => cases h with | i _ _ h => cases h with | vp _ _ b base xs hS hx hr => exact ⟨b, base + off, rfl⟩

theorem op_nilCheck {x : Operand} {v : V} (hx : evalE Γ e x = some v) (hp : IsPtr v) : LOp P Γ ⟨d, .nilCheck x, ty, pos, af, g⟩ e s (EqK v s) :=
  LOp.value (fun _ h => by cases h) fun a W α S B he hh => by
    have h := evalE_rel he hh.glob hx
    obtain ⟨b, o, hb⟩ := hp.some h
    exact ⟨a.eval x, by simp [execOp, hb], h⟩

theorem addr_add (b o n : Nat) : (⟨b, o, none⟩ : Addr).add n = ⟨b, o + n, none⟩ := by
  unfold Addr.add; split <;> simp_all

/-- What is asked of a field: its offset and its size. -/
def FieldAt (P : Program) (st : TypeId) (f off size : Nat) : Prop :=
  ∃ fields fd i, P.underlying st = some (.struct fields) ∧ fields[f]? = some fd ∧ fd.offset = off ∧ P.info? fd.type = some i ∧ i.size = size ∧ size ≠ 0

def fieldB (P : Program) (st f off size : Nat) : Bool := match P.underlying st with
  | some (.struct fields) => match fields[f]? with
    | some fd => match P.info? fd.type with
      | some i => fd.offset == off && i.size == size && size != 0
      | none => false
    | none => false
  | _ => false
theorem FieldAt.of {P : Program} {st : TypeId} {f off size : Nat} (h : fieldB P st f off size = true) : FieldAt P st f off size := by
  unfold fieldB at h
  split at h
  · rename_i fields hu
    split at h
    · rename_i fd hf
      split at h
      · rename_i i hi; simp only [Bool.and_eq_true, beq_iff_eq, bne_iff_ne] at h; exact ⟨fields, fd, i, hu, hf, h.1.1, hi, h.1.2, h.2⟩
      · cases h
    · cases h
  · cases h

theorem run_fieldAt {P : Program} {st : TypeId} {f off size : Nat} (h : FieldAt P st f off size) (W : World) (b o : Nat) :
    (Instr.fieldAt st (.pointer (some ⟨b, o, none⟩)) f).run P W = .ok (.pointer (some ⟨b, o + off, none⟩)) W := by
  obtain ⟨fields, fd, i, hu, hf, ho, hi, hs, hn⟩ := h
  subst hs
  simp [Instr.fieldAt, run_underlying hu, hf, Instr.sureAddr, fieldPlace, sizeOf, typeInfo, hi, hn, addr_add, ho]

theorem op_fieldAddr_p {st : TypeId} {x : Operand} {f off size id o : Nat} (hf : FieldAt P st f off size) (hx : evalE Γ e x = some (.p id o)) :
    LOp P Γ ⟨d, .fieldAddr st x f, ty, pos, af, g⟩ e s (EqK (.p id (o + off)) s) :=
  LOp.value (fun _ h => by cases h) fun a W α S B he hh => by
    have h := evalE_rel he hh.glob hx
    generalize hax : a.eval x = y at h
    cases h with
    | p _ _ b base hb => exact ⟨.pointer (some ⟨b, base + (o + off), none⟩), by simp [execOp, hax, run_fieldAt hf, Nat.add_assoc], .p _ _ b base hb⟩

theorem op_fieldAddr_vp {st : TypeId} {x : Operand} {f off size o : Nat} {es : List I} (hf : FieldAt P st f off size) (hx : evalE Γ e x = some (.i (.vp es o))) :
    LOp P Γ ⟨d, .fieldAddr st x f, ty, pos, af, g⟩ e s (EqK (.i (.vp es (o + off))) s) :=
  LOp.value (fun _ h => by cases h) fun a W α S B he hh => by
    have h := evalE_rel he hh.glob hx
    generalize hax : a.eval x = y at h
    cases h with
    | i _ _ h => cases h with
      | vp _ _ b base xs hS hx hr =>
        exact ⟨.pointer (some ⟨b, base + (o + off), none⟩), by simp [execOp, hax, run_fieldAt hf, Nat.add_assoc], .i _ _ (.vp es (o + off) b base xs hS hx hr)⟩

end
end Go.Ab
