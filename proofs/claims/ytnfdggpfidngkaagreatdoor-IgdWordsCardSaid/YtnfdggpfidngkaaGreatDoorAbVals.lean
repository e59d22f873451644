/-
  The layer Ab, part 5: numbers, texts, comparisons, conversions, fields, literals.
-/
import Derived.Test.YtnfdggpfidngkaaGreatDoorAbMem
import Derived.IntWalk
import Derived.Laws.Strings2
import Derived.Laws.Slices
import Derived.Lib.ConvBytes
import Derived.Laws.BytesArg
namespace Go.Ab

variable {P : Program} {Γ : Glob} {e : Env} {s : Hs}
section
variable {d : Option Tmp} {ty : TypeId} {pos : String} {af : Array Edge} {g : Option (Nat × Bool)}

def arithI : BinOp → IntKind → Int → Int → Option Int
  | .add, k, x, y => some (k.wrap (x + y))
  | .sub, k, x, y => some (k.wrap (x - y))
  | .mul, k, x, y => some (k.wrap (x * y))
  | .and, k, x, y => some (k.wrap (BitVec.ofInt k.bits x &&& BitVec.ofInt k.bits y).toNat)
  | .or, k, x, y => some (k.wrap (BitVec.ofInt k.bits x ||| BitVec.ofInt k.bits y).toNat)
  | .xor, k, x, y => some (k.wrap (BitVec.ofInt k.bits x ^^^ BitVec.ofInt k.bits y).toNat)
  | .andNot, k, x, y => some (k.wrap (BitVec.ofInt k.bits x &&& ~~~ BitVec.ofInt k.bits y).toNat)
  | _, _, _, _ => none

def cmpI : BinOp → Int → Int → Option Bool
  | .eql, x, y => some (decide (x = y))
  | .neq, x, y => some (!decide (x = y))
  | .lss, x, y => some (decide (x < y))
  | .leq, x, y => some (decide (x ≤ y))
  | .gtr, x, y => some (decide (y < x))
  | .geq, x, y => some (decide (y ≤ x))
  | _, _, _ => none

theorem run_eqGuard_int (op : BinOp) (t : TypeId) (x y : Operand) (k k' : IntKind) (a b : Int) (W : World) : (eqGuard op t x y (.int k a) (.int k' b)).run P W = .ok () W := by
  cases op <;> rfl
theorem run_eqGuard_string (op : BinOp) (t : TypeId) (x y : Operand) (a b : ByteArray) (W : World) : (eqGuard op t x y (.string a) (.string b)).run P W = .ok () W := by
  cases op <;> rfl
theorem run_eqGuard_bool (op : BinOp) (t : TypeId) (x y : Operand) (a b : Bool) (W : World) : (eqGuard op t x y (.bool a) (.bool b)).run P W = .ok () W := by
  cases op <;> rfl
theorem run_eqGuard_ptr (op : BinOp) (t : TypeId) (x y : Operand) (a b : Option Addr) (W : World) : (eqGuard op t x y (.pointer a) (.pointer b)).run P W = .ok () W := by
  cases op <;> rfl
theorem run_eqGuard_slice (op : BinOp) (t : TypeId) (x y : Operand) (a b : Option Addr) (l c l' c' : Nat) (W : World) : (eqGuard op t x y (.slice a l c) (.slice b l' c')).run P W = .ok () W := by
  cases op <;> rfl

theorem op_arith {op : BinOp} {t t2 : TypeId} {x y : Operand} {k : IntKind} {a b r : Int} (hx : evalE Γ e x = some (.i (.int k a))) (hy : evalE Γ e y = some (.i (.int k b)))
    (hr : arithI op k a b = some r) : LOp P Γ ⟨d, .binOp op t x y t2, ty, pos, af, g⟩ e s (EqK (.i (.int k r)) s) :=
  LOp.value (fun _ h => by cases h) fun ac W α S B he hh => ⟨.int k r, by
    have h1 := (evalE_rel he hh.glob hx).int_inv
    have h2 := (evalE_rel he hh.glob hy).int_inv
    cases op <;> simp only [arithI, Option.some.injEq, reduceCtorEq] at hr <;> subst hr <;>
      simp [execOp, h1, h2, run_eqGuard_int, binOp, Op.intArith, Op.intBits], .i _ _ (.int _ _)⟩

theorem op_cmp {op : BinOp} {t t2 : TypeId} {x y : Operand} {k : IntKind} {a b : Int} {r : Bool} (hx : evalE Γ e x = some (.i (.int k a))) (hy : evalE Γ e y = some (.i (.int k b)))
    (hr : cmpI op a b = some r) : LOp P Γ ⟨d, .binOp op t x y t2, ty, pos, af, g⟩ e s (EqK (.i (.bool r)) s) :=
  LOp.value (fun _ h => by cases h) fun ac W α S B he hh => ⟨.bool r, by
    have h1 := (evalE_rel he hh.glob hx).int_inv
    have h2 := (evalE_rel he hh.glob hy).int_inv
    cases op <;> simp only [cmpI, Option.some.injEq, reduceCtorEq] at hr <;> subst hr <;>
      simp only [execOp, h1, h2, Sem.run_bind, run_eqGuard_int, Result.andThen_ok, binOp, Op.intCmp, ne_eq, not_true_eq_false, if_false, Sem.run_pure] <;> rfl, .i _ _ (.bool _)⟩

theorem op_quo {t t2 : TypeId} {x y : Operand} {k : IntKind} {a b r : Int} (hx : evalE Γ e x = some (.i (.int k a))) (hy : evalE Γ e y = some (.i (.int k b)))
    (hb : b ≠ 0) (hr : k.wrap (a.tdiv b) = r) : LOp P Γ ⟨d, .binOp .quo t x y t2, ty, pos, af, g⟩ e s (EqK (.i (.int k r)) s) :=
  LOp.value (fun _ h => by cases h) fun ac W α S B he hh => ⟨.int k r, by
    have h1 := (evalE_rel he hh.glob hx).int_inv
    have h2 := (evalE_rel he hh.glob hy).int_inv
    subst hr
    simp [execOp, h1, h2, run_eqGuard_int, binOp, Op.intDiv, hb], .i _ _ (.int _ _)⟩

theorem op_rem {t t2 : TypeId} {x y : Operand} {k : IntKind} {a b r : Int} (hx : evalE Γ e x = some (.i (.int k a))) (hy : evalE Γ e y = some (.i (.int k b)))
    (hb : b ≠ 0) (hr : a.tmod b = r) : LOp P Γ ⟨d, .binOp .rem t x y t2, ty, pos, af, g⟩ e s (EqK (.i (.int k r)) s) :=
  LOp.value (fun _ h => by cases h) fun ac W α S B he hh => ⟨.int k r, by
    have h1 := (evalE_rel he hh.glob hx).int_inv
    have h2 := (evalE_rel he hh.glob hy).int_inv
    subst hr
    simp [execOp, h1, h2, run_eqGuard_int, binOp, Op.intDiv, hb], .i _ _ (.int _ _)⟩

theorem op_shl {t t2 : TypeId} {x y : Operand} {k k2 : IntKind} {a b r : Int} (hx : evalE Γ e x = some (.i (.int k a))) (hy : evalE Γ e y = some (.i (.int k2 b)))
    (hb : 0 ≤ b) (hr : k.wrap (a * 2 ^ (min b.toNat k.bits)) = r) : LOp P Γ ⟨d, .binOp .shl t x y t2, ty, pos, af, g⟩ e s (EqK (.i (.int k r)) s) :=
  LOp.value (fun _ h => by cases h) fun ac W α S B he hh => ⟨.int k r, by
    have h1 := (evalE_rel he hh.glob hx).int_inv
    have h2 := (evalE_rel he hh.glob hy).int_inv
    have hb' : ¬ b < 0 := by omega
    subst hr
    simp [execOp, h1, h2, run_eqGuard_int, binOp, Op.shift, hb'], .i _ _ (.int _ _)⟩

theorem op_shr {t t2 : TypeId} {x y : Operand} {k k2 : IntKind} {a b r : Int} (hx : evalE Γ e x = some (.i (.int k a))) (hy : evalE Γ e y = some (.i (.int k2 b)))
    (hb : 0 ≤ b) (hr : a.fdiv (2 ^ (min b.toNat k.bits)) = r) : LOp P Γ ⟨d, .binOp .shr t x y t2, ty, pos, af, g⟩ e s (EqK (.i (.int k r)) s) :=
  LOp.value (fun _ h => by cases h) fun ac W α S B he hh => ⟨.int k r, by
    have h1 := (evalE_rel he hh.glob hx).int_inv
    have h2 := (evalE_rel he hh.glob hy).int_inv
    have hb' : ¬ b < 0 := by omega
    subst hr
    simp [execOp, h1, h2, run_eqGuard_int, binOp, Op.shift, hb'], .i _ _ (.int _ _)⟩

theorem op_not {t : TypeId} {x : Operand} {b : Bool} (hx : evalE Γ e x = some (.i (.bool b))) : LOp P Γ ⟨d, .unOp .not t x, ty, pos, af, g⟩ e s (EqK (.i (.bool (!b))) s) :=
  LOp.value (fun _ h => by cases h) fun ac W α S B he hh => ⟨.bool (!b), by
    have h1 := (evalE_rel he hh.glob hx).bool_inv
    simp [execOp, h1, Op.unary], .i _ _ (.bool _)⟩

theorem op_neg {t : TypeId} {x : Operand} {k : IntKind} {a r : Int} (hx : evalE Γ e x = some (.i (.int k a))) (hr : k.wrap (0 - a) = r) :
    LOp P Γ ⟨d, .unOp .neg t x, ty, pos, af, g⟩ e s (EqK (.i (.int k r)) s) :=
  LOp.value (fun _ h => by cases h) fun ac W α S B he hh => ⟨.int k r, by
    have h1 := (evalE_rel he hh.glob hx).int_inv
    subst hr
    simp [execOp, h1, Op.unary, Op.intArith], .i _ _ (.int _ _)⟩

theorem op_compl {t : TypeId} {x : Operand} {k : IntKind} {a r : Int} (hx : evalE Γ e x = some (.i (.int k a))) (hr : arithI .xor k (if k.signed then -1 else k.max) a = some r) :
    LOp P Γ ⟨d, .unOp .xor t x, ty, pos, af, g⟩ e s (EqK (.i (.int k r)) s) :=
  LOp.value (fun _ h => by cases h) fun ac W α S B he hh => ⟨.int k r, by
    have h1 := (evalE_rel he hh.glob hx).int_inv
    simp only [arithI, Option.some.injEq] at hr
    subst hr
    simp [execOp, h1, Op.unary, Op.intBits], .i _ _ (.int _ _)⟩

def cmpS : BinOp → Str → Str → Option Bool
  | .eql, x, y => some (decide (x = y))
  | .neq, x, y => some (!decide (x = y))
  | .lss, x, y => some (Op.bytesLess x y)
  | _, _, _ => none

theorem op_cmps {op : BinOp} {t t2 : TypeId} {x y : Operand} {a b : Str} {r : Bool} (hx : evalE Γ e x = some (.i (.str a))) (hy : evalE Γ e y = some (.i (.str b)))
    (hr : cmpS op a b = some r) : LOp P Γ ⟨d, .binOp op t x y t2, ty, pos, af, g⟩ e s (EqK (.i (.bool r)) s) :=
  LOp.value (fun _ h => by cases h) fun ac W α S B he hh => ⟨.bool r, by
    have h1 := (evalE_rel he hh.glob hx).str_inv
    have h2 := (evalE_rel he hh.glob hy).str_inv
    have hbeq : (a == b) = decide (a = b) := by by_cases h : a = b <;> simp [h]
    cases op <;> simp only [cmpS, Option.some.injEq, reduceCtorEq] at hr <;> subst hr <;>
      simp only [execOp, h1, h2, Sem.run_bind, run_eqGuard_string, Result.andThen_ok, binOp, Op.stringOp, Sem.run_pure, ByteArray.toList_mk, hbeq], .i _ _ (.bool _)⟩

theorem ba_append (a b : Str) : (⟨a.toArray⟩ : ByteArray) ++ ⟨b.toArray⟩ = ⟨(a ++ b).toArray⟩ := by
  apply ByteArray.ext
  simp

theorem op_cat {t t2 : TypeId} {x y : Operand} {a b : Str} (hx : evalE Γ e x = some (.i (.str a))) (hy : evalE Γ e y = some (.i (.str b)))
    (hl : a.length + b.length ≤ 9223372036854775807) : LOp P Γ ⟨d, .binOp .add t x y t2, ty, pos, af, g⟩ e s (EqK (.i (.str (a ++ b))) s) :=
  LOp.value (fun _ h => by cases h) fun ac W α S B he hh => ⟨.string ⟨(a ++ b).toArray⟩, by
    have h1 := (evalE_rel he hh.glob hx).str_inv
    have h2 := (evalE_rel he hh.glob hy).str_inv
    have hm : ¬ (IntKind.i64.max < ((((⟨a.toArray⟩ : ByteArray).size + (⟨b.toArray⟩ : ByteArray).size : Nat)) : Int)) := by
      have : IntKind.i64.max = 9223372036854775807 := by decide
      simp only [ByteArray.size, List.size_toArray]
      omega
    simp only [execOp, h1, h2, Sem.run_bind, run_eqGuard_string, Result.andThen_ok, binOp, Op.stringOp, gt_iff_lt, if_neg hm, Sem.run_pure, ba_append], .i _ _ (.str _)⟩

theorem run_equalIn_bool {t : TypeId} (ht : P.underlying t = some .bool) (n : Nat) (a b : Bool) (W : World) : (Op.equalIn (n + 1) t (.bool a) (.bool b)).run P W = .ok (a == b) W := by
  simp [Op.equalIn, run_underlying ht]

theorem op_eql_bool {t t2 : TypeId} {x y : Operand} {a b : Bool} (ht : P.underlying t = some .bool) (hx : evalE Γ e x = some (.i (.bool a))) (hy : evalE Γ e y = some (.i (.bool b))) :
    LOp P Γ ⟨d, .binOp .eql t x y t2, ty, pos, af, g⟩ e s (EqK (.i (.bool (a == b))) s) :=
  LOp.value (fun _ h => by cases h) fun ac W α S B he hh => ⟨.bool (a == b), by
    have h1 := (evalE_rel he hh.glob hx).bool_inv
    have h2 := (evalE_rel he hh.glob hy).bool_inv
    simp only [execOp, h1, h2, Sem.run_bind, run_eqGuard_bool, Result.andThen_ok, binOp, Op.equal, Sem.run_pure]
    rw [show Op.maxDepth = 9999 + 1 from rfl, run_equalIn_bool ht]; rfl, .i _ _ (.bool _)⟩

theorem op_neq_bool {t t2 : TypeId} {x y : Operand} {a b : Bool} (ht : P.underlying t = some .bool) (hx : evalE Γ e x = some (.i (.bool a))) (hy : evalE Γ e y = some (.i (.bool b))) :
    LOp P Γ ⟨d, .binOp .neq t x y t2, ty, pos, af, g⟩ e s (EqK (.i (.bool (!(a == b)))) s) :=
  LOp.value (fun _ h => by cases h) fun ac W α S B he hh => ⟨.bool (!(a == b)), by
    have h1 := (evalE_rel he hh.glob hx).bool_inv
    have h2 := (evalE_rel he hh.glob hy).bool_inv
    simp only [execOp, h1, h2, Sem.run_bind, run_eqGuard_bool, Result.andThen_ok, binOp, Op.equal, Sem.run_pure]
    rw [show Op.maxDepth = 9999 + 1 from rfl, run_equalIn_bool ht]; rfl, .i _ _ (.bool _)⟩

theorem op_conv_int {st dt : TypeId} {x : Operand} {k k2 : IntKind} {a r : Int} {u : TypeDesc} (hs : P.underlying st = some u) (hd : P.underlying dt = some (.int k)) (hx : evalE Γ e x = some (.i (.int k2 a)))
    (hr : k.wrap a = r) : LOp P Γ ⟨d, .convert st dt x, ty, pos, af, g⟩ e s (EqK (.i (.int k r)) s) :=
  LOp.value (fun _ h => by cases h) fun ac W α S B he hh => ⟨.int k r, by
    have h1 := (evalE_rel he hh.glob hx).int_inv
    subst hr
    simp [execOp, h1, convert, run_underlying hs, run_underlying hd, Conv.intToInt], .i _ _ (.int _ _)⟩

theorem op_conv_str {st dt : TypeId} {x : Operand} {a : Str} {u : TypeDesc} (hs : P.underlying st = some u) (hd : P.underlying dt = some .string) (hx : evalE Γ e x = some (.i (.str a))) :
    LOp P Γ ⟨d, .convert st dt x, ty, pos, af, g⟩ e s (EqK (.i (.str a)) s) :=
  LOp.value (fun _ h => by cases h) fun ac W α S B he hh => ⟨.string ⟨a.toArray⟩, by
    have h1 := (evalE_rel he hh.glob hx).str_inv
    simp [execOp, h1, convert, run_underlying hs, run_underlying hd], .i _ _ (.str _)⟩

/-- The bytes of a text as cells. -/
def bytesI (l : Str) : List I := l.map fun c => .int .u8 c.toNat

theorem op_conv_bytes {st dt el : TypeId} {x : Operand} {l : Str} {u : TypeDesc} (hs : P.underlying st = some u) (hd : P.underlying dt = some (.slice el)) (he8 : P.underlying el = some (.int .u8))
    (hx : evalE Γ e x = some (.i (.str l))) : LOp P Γ ⟨d, .convert st dt x, ty, pos, af, g⟩ e s (EqK (.i (.vec (bytesI l) l.length 1)) s) := by
  intro ro m a W α S B next Q he hh hnext
  refine ⟨about_wide, ?_⟩
  rw [Oper.semAt_eq _ _ _ (fun _ h => by cases h)]
  have h1 := (evalE_rel he hh.glob hx).str_inv
  have hq := Lib.run_convert_string_bytes (P := P) W st dt el (⟨l.toArray⟩ : ByteArray) hs hd he8
  simp only [execOp, h1, Sem.run_bind, hq, Result.andThen_ok, Sem.run_pure, Oper.uponIn_value]
  have hsz := Lib.bytesWorld_size W el (⟨l.toArray⟩ : ByteArray)
  have hold := fun j hj => Lib.bytesWorld_at_old W el (⟨l.toArray⟩ : ByteArray) j hj
  have hS : ∀ b, S b → (S b ∨ b = W.heap.size) := fun b h => .inl h
  have hn : ∀ b, (S b ∨ b = W.heap.size) → S b ∨ (W.heap.size ≤ b ∧ b < (Lib.bytesWorld W el (⟨l.toArray⟩ : ByteArray)).heap.size) := fun b hb => hb.imp id fun h => by omega
  have ho : (Lib.bytesWorld W el (⟨l.toArray⟩ : ByteArray)).os = W.os := by simp [Lib.bytesWorld, World.freeze, World.alloc, World.drew, -World.alloc_eq, -World.drew_eq]
  have hta : (Lib.bytesWorld W el (⟨l.toArray⟩ : ByteArray)).tape = W.tape := by simp [Lib.bytesWorld, World.freeze, World.alloc, World.drew, -World.alloc_eq, -World.drew_eq]
  have hou : (Lib.bytesWorld W el (⟨l.toArray⟩ : ByteArray)).output = W.output := by simp [Lib.bytesWorld, World.freeze, World.alloc, World.drew, -World.alloc_eq, -World.drew_eq]
  refine hnext _ _ _ α (fun b => S b ∨ b = W.heap.size) B _ ⟨rfl, rfl⟩ (.i _ _ ?_) (hh.extend (by omega) hold hS hn) (Fr.extend ho hta hou (by omega) hold hS hn) (Al.refl α)
  have hsz2 : (⟨l.toArray⟩ : ByteArray).size = l.length := by simp [ByteArray.size]
  have hcap : l.length ≤ grownCap W (⟨l.toArray⟩ : ByteArray).size 0 el := by rw [← hsz2]; exact grownCap_ge W _ _ _
  rw [show Value.slice (some ⟨W.heap.size, 0, none⟩) (⟨l.toArray⟩ : ByteArray).size (grownCap W (⟨l.toArray⟩ : ByteArray).size 0 el) = Value.slice (some ⟨W.heap.size, 0, none⟩) l.length (grownCap W (⟨l.toArray⟩ : ByteArray).size 0 el) from by rw [hsz2]]
  refine .vec _ _ _ _ _ _ (fun i => .int .u8 ((l.getD i 0).toNat : Int)) (.inr rfl) (by simp [bytesI]) hcap ?_ ?_
  · intro i hi
    have := Lib.bytesWorld_cell W el (⟨l.toArray⟩ : ByteArray) i (by rw [hsz2]; simpa [bytesI] using hi)
    simpa using this
  · intro i hi
    have hi' : i < l.length := by simpa [bytesI] using hi
    have : (bytesI l)[i] = .int .u8 ((l.getD i 0).toNat : Int) := by simp [bytesI, List.getD, hi']
    rw [this]
    exact .int _ _

end
end Go.Ab
