/-
  The layer Ab, part 1: abstract values, what they stand for in a world, and how that is kept.
-/
import Derived.CallsIn
import Derived.TacticsIn
import Derived.RangeFuncCalls
import Derived.Laws.AppendOwn
import Derived.Laws.Rows
import Derived.KernelRfl
namespace Go.Ab

abbrev Str := List UInt8

/-- Values without owned memory: what they stand for is read-only. -/
inductive I where
  | int (k : IntKind) (n : Int)
  | bool (b : Bool)
  | str (s : Str)
  | val (x : Value)
  | vec (es : List I) (n k : Nat)
  | vp (es : List I) (off : Nat)
  | fn (f : Fn) (first cap : List I)

/-- Values: those without owned memory; pointers and slices to owned blocks (by their names); what is made of these. -/
inductive V where
  | i (x : I)
  | p (id off : Nat)
  | sl (id off len k : Nat)
  | agg (cs : List V)
  | tup (cs : List V)
  | fn (f : Fn) (first cap : List V)
  | cond (b : Bool) (x : V)
  | junk

inductive IR (S : Nat → Prop) (W : World) : I → Value → Prop where
  | int (k : IntKind) (n : Int) : IR S W (.int k n) (.int k n)
  | bool (b : Bool) : IR S W (.bool b) (.bool b)
  | str (l : Str) : IR S W (.str l) (.string ⟨l.toArray⟩)
  | val (x : Value) : IR S W (.val x) x
  | nil (k : Nat) : IR S W (.vec [] 0 k) (.slice none 0 0)
  | emp (k b o cap : Nat) : IR S W (.vec [] 0 k) (.slice (some ⟨b, o, none⟩) 0 cap)
  | vec (es : List I) (n k b off cap : Nat) (xs : Nat → Value) (hS : S b) (hl : es.length = n * k) (hc : n ≤ cap)
      (hx : ∀ i, i < es.length → W.cell? ⟨b, off + i, none⟩ = some (xs i)) (hr : ∀ i (h : i < es.length), IR S W es[i] (xs i)) :
      IR S W (.vec es n k) (.slice (some ⟨b, off, none⟩) n cap)
  | vp (es : List I) (off b base : Nat) (xs : Nat → Value) (hS : S b)
      (hx : ∀ i, i < es.length → W.cell? ⟨b, base + i, none⟩ = some (xs i)) (hr : ∀ i (h : i < es.length), IR S W es[i] (xs i)) :
      IR S W (.vp es off) (.pointer (some ⟨b, base + off, none⟩))
  | fn (f : Fn) (first cap : List I) (xs ys : Array Value) (h1 : xs.size = first.length) (h2 : ys.size = cap.length)
      (hr1 : ∀ i (h : i < first.length), IR S W first[i] (xs.getD i undef)) (hr2 : ∀ i (h : i < cap.length), IR S W cap[i] (ys.getD i undef)) :
      IR S W (.fn f first cap) (.func f xs ys)

inductive VR (α : Nat → Option (Nat × Nat)) (S : Nat → Prop) (W : World) : V → Value → Prop where
  | i (x : I) (v : Value) (h : IR S W x v) : VR α S W (.i x) v
  | p (id off b base : Nat) (h : α id = some (b, base)) : VR α S W (.p id off) (.pointer (some ⟨b, base + off, none⟩))
  | sl (id off len k b base cap N : Nat) (ty : TypeId) (h : α id = some (b, base)) (hs : W.shape? b = some (ty, N)) (hN : base + off + cap * k ≤ N) (hc : len ≤ cap) :
      VR α S W (.sl id off len k) (.slice (some ⟨b, base + off, none⟩) len cap)
  | sl0 (id off k b o : Nat) : VR α S W (.sl id off 0 k) (.slice (some ⟨b, o, none⟩) 0 0)
  | slnil (id off k : Nat) : VR α S W (.sl id off 0 k) (.slice none 0 0)
  | agg (cs : List V) (xs : Array Value) (hl : xs.size = cs.length) (hr : ∀ i (h : i < cs.length), VR α S W cs[i] (xs.getD i undef)) :
      VR α S W (.agg cs) (.agg xs)
  | tup (cs : List V) (xs : Array Value) (hl : xs.size = cs.length) (hr : ∀ i (h : i < cs.length), VR α S W cs[i] (xs.getD i undef)) :
      VR α S W (.tup cs) (.tuple xs)
  | fn (f : Fn) (first cap : List V) (xs ys : Array Value) (h1 : xs.size = first.length) (h2 : ys.size = cap.length)
      (hr1 : ∀ i (h : i < first.length), VR α S W first[i] (xs.getD i undef)) (hr2 : ∀ i (h : i < cap.length), VR α S W cap[i] (ys.getD i undef)) :
      VR α S W (.fn f first cap) (.func f xs ys)
  | cond (b : Bool) (x : V) (v : Value) (h : b = true → VR α S W x v) : VR α S W (.cond b x) v
  | junk (v : Value) : VR α S W .junk v

/-- What a world keeps of another: the read-only blocks, all shapes. -/
structure Keeps (S : Nat → Prop) (W W' : World) : Prop where
  same : ∀ b, S b → W'.heap[b]? = W.heap[b]?
  shape : ∀ b s, W.shape? b = some s → W'.shape? b = some s

theorem Keeps.refl (S : Nat → Prop) (W : World) : Keeps S W W := ⟨fun _ _ => rfl, fun _ _ h => h⟩

theorem cell?_of_heap {W W' : World} {b o : Nat} (h : W'.heap[b]? = W.heap[b]?) : W'.cell? ⟨b, o, none⟩ = W.cell? ⟨b, o, none⟩ := by
  simp [World.cell?, h]

theorem IR.mono {S S' : Nat → Prop} {W W' : World} (hS : ∀ b, S b → S' b) (hk : Keeps S W W') {x : I} {v : Value} (h : IR S W x v) : IR S' W' x v := by
  induction h with
  | int k n => exact .int k n
  | bool b => exact .bool b
  | str l => exact .str l
  | val x => exact .val x
  | nil k => exact .nil k
  | emp k b o cap => exact .emp k b o cap
  | vec es n k b off cap xs hb hl hc hx _ ih =>
    exact .vec es n k b off cap xs (hS _ hb) hl hc (fun i hi => (cell?_of_heap (hk.same _ hb)).trans (hx i hi)) ih
  | vp es off b base xs hb hx _ ih => exact .vp es off b base xs (hS _ hb) (fun i hi => (cell?_of_heap (hk.same _ hb)).trans (hx i hi)) ih
  | fn f first cap xs ys h1 h2 _ _ ih1 ih2 => exact .fn f first cap xs ys h1 h2 ih1 ih2

theorem VR.mono {α α' : Nat → Option (Nat × Nat)} {S S' : Nat → Prop} {W W' : World} (hα : ∀ i q, α i = some q → α' i = some q) (hS : ∀ b, S b → S' b) (hk : Keeps S W W')
    {x : V} {v : Value} (h : VR α S W x v) : VR α' S' W' x v := by
  induction h with
  | i x v h => exact .i x v (h.mono hS hk)
  | p id off b base h => exact .p id off b base (hα _ _ h)
  | sl id off len k b base cap N ty h hs hN hc => exact .sl id off len k b base cap N ty (hα _ _ h) (hk.shape _ _ hs) hN hc
  | sl0 id off k b o => exact .sl0 id off k b o
  | slnil id off k => exact .slnil id off k
  | agg cs xs hl _ ih => exact .agg cs xs hl ih
  | tup cs xs hl _ ih => exact .tup cs xs hl ih
  | fn f first cap xs ys h1 h2 _ _ ih1 ih2 => exact .fn f first cap xs ys h1 h2 ih1 ih2
  | cond b x v _ ih => exact .cond b x v ih
  | junk v => exact .junk v

/-- A resource that is carried along unseen. -/
structure Ext where
  holds : (Nat → Prop) → (Nat → Prop) → World → Prop
  stable : ∀ (S B : Nat → Prop) (W : World) (S' : Nat → Prop) (W' : World), holds S B W → (∀ b, S b → S' b) → Keeps S W W' →
    (∀ b, B b → W'.heap[b]? = W.heap[b]?) → holds S' B W'

def Ext.emp : Ext := ⟨fun _ B _ => ∀ b, ¬ B b, fun _ _ _ _ _ h _ _ _ => h⟩

abbrev Hp := List (Nat × List V)

structure Hs where
  hp : Hp
  nx : Nat
  ex : Ext

/-- The read-only package-level variables: which cells they have. -/
abbrev Glob := Nat → Option (List I)

def GlobR (Γ : Glob) (S : Nat → Prop) (W : World) : Prop :=
  ∀ g cs, Γ g = some cs → S g ∧ ∀ i (h : i < cs.length), ∃ x, W.cell? ⟨g, i, none⟩ = some x ∧ IR S W cs[i] x

/-- A block's cells, from a place on, are those of a list. -/
def BlkR (α : Nat → Option (Nat × Nat)) (S : Nat → Prop) (W : World) (cs : List V) (b base : Nat) : Prop :=
  ∃ (xs : Array Value) (ty : TypeId), W.heap[b]? = some (.cells xs ty (0, 0)) ∧ base + cs.length ≤ xs.size ∧
    ∀ i (h : i < cs.length), VR α S W cs[i] (xs.getD (base + i) undef)

/-- What no value is: the mark of a name that is kept for a block to come. -/
def dead : V := .i (.vec [] 1 1)

structure HRel (Γ : Glob) (α : Nat → Option (Nat × Nat)) (S B : Nat → Prop) (s : Hs) (W : World) : Prop where
  glob : GlobR Γ S W
  ext : ∃ Bx : Nat → Prop, s.ex.holds S Bx W ∧ (∀ b, Bx b → B b) ∧ (∀ b, Bx b → ∀ id cs q, (id, cs) ∈ s.hp → α id = some q → q.1 ≠ b) ∧
    (∀ b, B b → Bx b ∨ ∃ id cs q, (id, cs) ∈ s.hp ∧ α id = some q ∧ q.1 = b)
  blk : ∀ id cs, (id, cs) ∈ s.hp → (∃ b base, α id = some (b, base) ∧ B b ∧ BlkR α S W cs b base) ∨ ((cs = [] ∨ cs = [dead]) ∧ α id = none)
  nodup : (s.hp.map (·.1)).Nodup
  inj : ∀ i j q r, i ∈ s.hp.map (·.1) → j ∈ s.hp.map (·.1) → α i = some q → α j = some r → q.1 = r.1 → i = j
  apart : ∀ b, S b → ¬ B b
  sLt : ∀ b, S b → b < W.heap.size
  bLt : ∀ b, B b → b < W.heap.size
  aLt : ∀ i q, α i = some q → i < s.nx
  kLt : ∀ id cs, (id, cs) ∈ s.hp → id < s.nx

/-- How a run goes from one world to the next. -/
structure Fr (S B : Nat → Prop) (W : World) (S' B' : Nat → Prop) (W' : World) : Prop where
  os : W'.os = W.os
  tape : W'.tape = W.tape
  output : W'.output = W.output
  size : W.heap.size ≤ W'.heap.size
  same : ∀ b, b < W.heap.size → ¬ B b → W'.heap[b]? = W.heap[b]?
  shape : ∀ b s, W.shape? b = some s → W'.shape? b = some s
  sub : ∀ b, S b → S' b
  own : ∀ b, B' b → B b ∨ W.heap.size ≤ b
  sealed : ∀ b, S' b → S b ∨ B b ∨ W.heap.size ≤ b

theorem Fr.refl (S B : Nat → Prop) (W : World) : Fr S B W S B W :=
  ⟨rfl, rfl, rfl, Nat.le_refl _, fun _ _ _ => rfl, fun _ _ h => h, fun _ h => h, fun _ h => .inl h, fun _ h => .inl h⟩

theorem Fr.trans {S B W S₁ B₁ W₁ S₂ B₂ W₂} (h : Fr S B W S₁ B₁ W₁) (k : Fr S₁ B₁ W₁ S₂ B₂ W₂) : Fr S B W S₂ B₂ W₂ where
  os := k.os.trans h.os
  tape := k.tape.trans h.tape
  output := k.output.trans h.output
  size := Nat.le_trans h.size k.size
  same := fun b hb hn => by
    refine (k.same b (Nat.lt_of_lt_of_le hb h.size) fun h1 => ?_).trans (h.same b hb hn)
    rcases h.own b h1 with h2 | h2
    · exact hn h2
    · omega
  shape := fun b s hs => k.shape b s (h.shape b s hs)
  sub := fun b hb => k.sub b (h.sub b hb)
  own := fun b hb => by
    rcases k.own b hb with h1 | h1
    · exact h.own b h1
    · exact .inr (Nat.le_trans h.size h1)
  sealed := fun b hb => by
    rcases k.sealed b hb with h1 | h1 | h1
    · exact h.sealed b h1
    · rcases h.own b h1 with h2 | h2
      · exact .inr (.inl h2)
      · exact .inr (.inr h2)
    · exact .inr (.inr (Nat.le_trans h.size h1))

theorem Fr.keeps {S B W S' B' W'} (h : Fr S B W S' B' W') (ha : ∀ b, S b → ¬ B b) (hl : ∀ b, S b → b < W.heap.size) : Keeps S W W' :=
  ⟨fun b hb => h.same b (hl b hb) (ha b hb), h.shape⟩

/-- One naming goes on in another. -/
def Al (α α' : Nat → Option (Nat × Nat)) : Prop := ∀ i q, α i = some q → α' i = some q

theorem Al.refl (α : Nat → Option (Nat × Nat)) : Al α α := fun _ _ h => h
theorem Al.trans {α β γ : Nat → Option (Nat × Nat)} (h : Al α β) (k : Al β γ) : Al α γ := fun i q hi => k i q (h i q hi)

theorem VR.fr {Γ α S B s W α' S' B' W'} (hh : HRel Γ α S B s W) (h : Fr S B W S' B' W') (hal : Al α α') {x : V} {v : Value}
    (hv : VR α S W x v) : VR α' S' W' x v := hv.mono hal h.sub (h.keeps hh.apart hh.sLt)

end Go.Ab
