/-
  The layer Ab, part 7: code, functions, calls.
-/
import Derived.Test.YtnfdggpfidngkaaGreatDoorAbMore
import Derived.LoopNIn
namespace Go.Ab

structure St where
  e : Env
  s : Hs

/-- What an activation and a world stand for. -/
structure StR (Γ : Glob) (N : Nat) (D : List Deferred) (α : Nat → Option (Nat × Nat)) (S B : Nat → Prop) (st : St) (a : Act) (W : World) : Prop where
  size : a.tmps.size = N
  defers : a.defers = D
  env : EnvR α S W st.e a.tmps
  hp : HRel Γ α S B st.s W

def Pin (pin : Nat) (α α' : Nat → Option (Nat × Nat)) : Prop := ∀ i q, i < pin → α i = some q → α' i = some q
theorem Pin.refl (pin : Nat) (α : Nat → Option (Nat × Nat)) : Pin pin α α := fun _ _ _ h => h
theorem Pin.trans {pin : Nat} {α β γ : Nat → Option (Nat × Nat)} (h : Pin pin α β) (k : Pin pin β γ) : Pin pin α γ := fun i q hi hq => k i q hi (h i q hi hq)
theorem Al.pin {α α' : Nat → Option (Nat × Nat)} (h : Al α α') (pin : Nat) : Pin pin α α' := fun i q _ hq => h i q hq

/-- Where a run has come from a state: what is known there. -/
def Post (Γ : Glob) (N : Nat) (D : List Deferred) (pin : Nat) (α : Nat → Option (Nat × Nat)) (S B : Nat → Prop) (W : World) (Q : Exit → St → Prop) : Exit → Act → World → Prop :=
  fun x a' W' => ∃ st' α' S' B', Q x st' ∧ StR Γ N D α' S' B' st' a' W' ∧ Fr S B W S' B' W' ∧ Pin pin α α'

def AWp (P : Program) (Γ : Glob) (ro : Option Nat) (N : Nat) (D : List Deferred) (pin : Nat) (c : Code) (Q : Exit → St → Prop) (st : St) : Prop :=
  ∀ m a W α S B, StR Γ N D α S B st a W → c.wpIn (Fe ro) m P (Post Γ N D pin α S B W Q) a W

def AOps (P : Program) (Γ : Glob) (ro : Option Nat) (N : Nat) (D : List Deferred) (pin : Nat) (ops : Array Oper) (l : List Oper) (Q : Exit → St → Prop) (st : St) : Prop :=
  ∀ m a W α S B, StR Γ N D α S B st a W → ∀ R : Exit → Act → World → Prop, (∀ x a' W', Post Γ N D pin α S B W Q x a' W' → R x a' W') → wpListIn (Fe ro) m P ops R l a W

def Exit.thenA (K : St → Prop) (Q : Exit → St → Prop) : Exit → St → Prop
  | .normal, st => K st
  | e, st => Q e st

def Exit.inBlockA (id : Nat) (Q : Exit → St → Prop) : Exit → St → Prop
  | .exit id', st => bif Nat.beq id' id then Q .normal st else Q (.exit id') st
  | e, st => Q e st

theorem Post.from {Γ : Glob} {N : Nat} {D : List Deferred} {pin : Nat} {α α₁ : Nat → Option (Nat × Nat)} {S B S₁ B₁ : Nat → Prop} {W W₁ : World} {Q : Exit → St → Prop} (hf : Fr S B W S₁ B₁ W₁) (hp : Pin pin α α₁)
    {x : Exit} {a : Act} {W' : World} (h : Post Γ N D pin α₁ S₁ B₁ W₁ Q x a W') : Post Γ N D pin α S B W Q x a W' := by
  obtain ⟨st', α', S', B', h1, h2, h3, h4⟩ := h
  exact ⟨st', α', S', B', h1, h2, hf.trans h3, hp.trans h4⟩

section
variable {P : Program} {Γ : Glob} {ro : Option Nat} {N : Nat} {D : List Deferred} {pin : Nat} {Q : Exit → St → Prop} {st : St}

theorem AWp.mono {c : Code} {Q' : Exit → St → Prop} (h : AWp P Γ ro N D pin c Q st) (hq : ∀ x st, Q x st → Q' x st) : AWp P Γ ro N D pin c Q' st :=
  fun m a W α S B hs => wpIn_mono (h m a W α S B hs) fun _ _ _ ⟨st', α', S', B', h1, h2, h3, h4⟩ => ⟨st', α', S', B', hq _ _ h1, h2, h3, h4⟩

theorem AWp.seq {x y : Code} (h : AWp P Γ ro N D pin x (Exit.thenA (AWp P Γ ro N D pin y Q) Q) st) : AWp P Γ ro N D pin (.seq x y) Q st := by
  intro m a W α S B hs
  refine wpIn_seq (wpIn_mono (h m a W α S B hs) fun e a₁ W₁ hp => ?_)
  obtain ⟨st₁, α₁, S₁, B₁, h1, h2, h3, h4⟩ := hp
  cases e with
  | normal => exact wpIn_mono (h1 m a₁ W₁ α₁ S₁ B₁ h2) fun e a₂ W₂ hp => hp.from h3 h4
  | exit id => exact ⟨st₁, α₁, S₁, B₁, h1, h2, h3, h4⟩
  | goto l => exact ⟨st₁, α₁, S₁, B₁, h1, h2, h3, h4⟩
  | ret => exact ⟨st₁, α₁, S₁, B₁, h1, h2, h3, h4⟩
  | panic c => exact ⟨st₁, α₁, S₁, B₁, h1, h2, h3, h4⟩
  | outgrown => exact ⟨st₁, α₁, S₁, B₁, h1, h2, h3, h4⟩

theorem AWp.cond {c : Operand} {x y : Code} {b : Bool} (hc : evalE Γ st.e c = some (.i (.bool b))) (ht : b = true → AWp P Γ ro N D pin x Q st) (hf : b = false → AWp P Γ ro N D pin y Q st) :
    AWp P Γ ro N D pin (.cond c x y) Q st := by
  intro m a W α S B hs
  have h := (evalE_rel hs.env hs.hp.glob hc).bool_inv
  exact wpIn_cond_split h (fun hb => ht hb m a W α S B hs) (fun hb => hf hb m a W α S B hs)

theorem AWp.block {id : Nat} {c : Code} (h : AWp P Γ ro N D pin c (Exit.inBlockA id Q) st) : AWp P Γ ro N D pin (.block id c) Q st := by
  intro m a W α S B hs
  refine wpIn_block (wpIn_mono (h m a W α S B hs) fun e a₁ W₁ hp => ?_)
  obtain ⟨st₁, α₁, S₁, B₁, h1, h2, h3, h4⟩ := hp
  cases e with
  | exit id' =>
    simp only [Exit.inBlockA] at h1
    simp only [Exit.inBlock]
    split
    · rename_i he
      have hb : Nat.beq id' id = true := by subst he; exact Nat.beq_refl _
      rw [hb] at h1; exact ⟨st₁, α₁, S₁, B₁, h1, h2, h3, h4⟩
    · rename_i he
      have hb : Nat.beq id' id = false := by
        cases h : Nat.beq id' id
        · rfl
        · exact absurd (Nat.eq_of_beq_eq_true h) he
      rw [hb] at h1; exact ⟨st₁, α₁, S₁, B₁, h1, h2, h3, h4⟩
  | normal => exact ⟨st₁, α₁, S₁, B₁, h1, h2, h3, h4⟩
  | goto l => exact ⟨st₁, α₁, S₁, B₁, h1, h2, h3, h4⟩
  | ret => exact ⟨st₁, α₁, S₁, B₁, h1, h2, h3, h4⟩
  | panic c => exact ⟨st₁, α₁, S₁, B₁, h1, h2, h3, h4⟩
  | outgrown => exact ⟨st₁, α₁, S₁, B₁, h1, h2, h3, h4⟩

theorem AWp.skip (h : Q .normal st) : AWp P Γ ro N D pin .skip Q st := fun _ _ _ α S B hs => wpIn_skip ⟨st, α, S, B, h, hs, Fr.refl S B _, Pin.refl pin α⟩
theorem AWp.ret (h : Q .ret st) : AWp P Γ ro N D pin .ret Q st := fun _ _ _ α S B hs => wpIn_ret ⟨st, α, S, B, h, hs, Fr.refl S B _, Pin.refl pin α⟩
theorem AWp.exit {id : Nat} (h : Q (.exit id) st) : AWp P Γ ro N D pin (.exit id) Q st := fun _ _ _ α S B hs => wpIn_exit ⟨st, α, S, B, h, hs, Fr.refl S B _, Pin.refl pin α⟩

theorem AWp.loop {ι : Type} {c : Code} (J : ι → St) (μ : ι → Nat) (i0 : ι) (h0 : st = J i0)
    (h : ∀ i, AWp P Γ ro N D pin c (Exit.thenA (fun st' => ∃ j, st' = J j ∧ μ j < μ i) Q) (J i)) : AWp P Γ ro N D pin (.loop c) Q st := by
  subst h0
  intro m a W α S B hs
  have key : ∀ k i, μ i < k → ∀ (a₁ : Act) (W₁ : World) (α₁ : Nat → Option (Nat × Nat)) (S₁ B₁ : Nat → Prop), StR Γ N D α₁ S₁ B₁ (J i) a₁ W₁ → Fr S B W S₁ B₁ W₁ → Pin pin α α₁ →
      Code.roundsIn (Fe ro) m P c (Post Γ N D pin α S B W Q) k a₁ W₁ := by
    intro k
    induction k with
    | zero => intro i hi; exact absurd hi (Nat.not_lt_zero _)
    | succ k ih =>
      intro i hi a₁ W₁ α₁ S₁ B₁ hs₁ hf hp
      rw [roundsIn_succ]
      refine wpIn_mono (h i m a₁ W₁ α₁ S₁ B₁ hs₁) fun e a₂ W₂ hq => ?_
      obtain ⟨st₂, α₂, S₂, B₂, h1, h2, h3, h4⟩ := hq
      cases e with
      | normal =>
        obtain ⟨j, rfl, hj⟩ := h1
        exact ih j (by omega) a₂ W₂ α₂ S₂ B₂ h2 (hf.trans h3) (hp.trans h4)
      | exit id => exact ⟨st₂, α₂, S₂, B₂, h1, h2, hf.trans h3, hp.trans h4⟩
      | goto l => exact ⟨st₂, α₂, S₂, B₂, h1, h2, hf.trans h3, hp.trans h4⟩
      | ret => exact ⟨st₂, α₂, S₂, B₂, h1, h2, hf.trans h3, hp.trans h4⟩
      | panic c => exact ⟨st₂, α₂, S₂, B₂, h1, h2, hf.trans h3, hp.trans h4⟩
      | outgrown => exact ⟨st₂, α₂, S₂, B₂, h1, h2, hf.trans h3, hp.trans h4⟩
  exact wpIn_loop_rounds (μ i0 + 1) (key _ i0 (Nat.lt_succ_self _) a W α S B hs (Fr.refl S B W) (Pin.refl pin α))

/-! ### Ghost steps -/

/-- The same activation and world, seen otherwise. -/
def Gh (Γ : Glob) (N : Nat) (D : List Deferred) (pin : Nat) (st st' : St) : Prop :=
  ∀ (α : Nat → Option (Nat × Nat)) (S B : Nat → Prop) (a : Act) (W : World), StR Γ N D α S B st a W → ∃ α' S' B', StR Γ N D α' S' B' st' a W ∧ Fr S B W S' B' W ∧ Pin pin α α'

theorem Gh.refl (st : St) : Gh Γ N D pin st st := fun α S B _ W h => ⟨α, S, B, h, Fr.refl S B W, Pin.refl pin α⟩
theorem Gh.trans {st st₁ st₂ : St} (h : Gh Γ N D pin st st₁) (k : Gh Γ N D pin st₁ st₂) : Gh Γ N D pin st st₂ := fun α S B a W hs => by
  obtain ⟨α₁, S₁, B₁, h1, h2, h3⟩ := h α S B a W hs
  obtain ⟨α₂, S₂, B₂, k1, k2, k3⟩ := k α₁ S₁ B₁ a W h1
  exact ⟨α₂, S₂, B₂, k1, h2.trans k2, h3.trans k3⟩

theorem AWp.ghost {c : Code} {st' : St} (hg : Gh Γ N D pin st st') (h : AWp P Γ ro N D pin c Q st') : AWp P Γ ro N D pin c Q st := fun m a W α S B hs => by
  obtain ⟨α₁, S₁, B₁, h1, h2, h3⟩ := hg α S B a W hs
  exact wpIn_mono (h m a W α₁ S₁ B₁ h1) fun e a₂ W₂ hp => hp.from h2 h3

/-- Some temporaries are kept in mind, in an order of one's own. -/
theorem Gh.keep {e' : Env} (h : ∀ p, p ∈ e' → st.e.lookup p.1 = some p.2) : Gh Γ N D pin st ⟨e', st.s⟩ := fun α S B a W hs =>
  ⟨α, S, B, ⟨hs.size, hs.defers, fun t v ht => hs.env t v (h (t, v) (by
    have : ∀ (l : Env), l.lookup t = some v → (t, v) ∈ l := fun l => by
      induction l with
      | nil => simp
      | cons p l ih =>
        obtain ⟨i, c⟩ := p
        intro hl
        simp only [List.lookup_cons] at hl
        by_cases hi : t = i
        · subst hi; simp at hl; subst hl; simp
        · have hb : (t == i) = false := by simp [hi]
          rw [hb] at hl
          exact List.mem_cons_of_mem _ (ih hl)
    exact this e' ht)), hs.hp⟩, Fr.refl S B W, Pin.refl pin α⟩

/-- Owned memory is given up. -/
theorem Gh.drop {hp' : Hp} (h : hp'.Sublist st.s.hp) : Gh Γ N D pin st ⟨st.e, { st.s with hp := hp' }⟩ := fun α S B a W hs => by
  have hd := hs.hp.drop hp' h
  refine ⟨α, S, _, ⟨hs.size, hs.defers, hs.env, hd⟩, ⟨rfl, rfl, rfl, Nat.le_refl _, fun _ _ _ => rfl, fun _ _ h => h, fun _ h => h, fun b hb => .inl hb.1, fun _ h => .inl h⟩, Pin.refl pin α⟩

/-! ### Operations in their order -/

def dOk (d : Option Nat) (N : Nat) : Bool := match d with | some t => Nat.blt t N | none => true

def putE (d : Option Tmp) (v : V) (e : Env) : Env := match d with | some t => (t, v) :: e | none => e

theorem putE_rel {α : Nat → Option (Nat × Nat)} {S : Nat → Prop} {W : World} {e : Env} {a : Act} {d : Option Tmp} {v : V} {x : Value} (hd : dOk d N = true) (hN : a.tmps.size = N)
    (he : EnvR α S W e a.tmps) (hv : VR α S W v x) : EnvR α S W (putE d v e) (a.put d x).tmps := by
  cases d with
  | none => exact he
  | some t =>
    intro t' v' h
    have ht : t < a.tmps.size := by rw [hN]; simpa [dOk, Nat.blt_eq] using hd
    simp only [putE, List.lookup_cons] at h
    by_cases hi : t' = t
    · subst hi
      simp at h
      subst h
      have : (a.put (some t') x).tmps.getD t' undef = x := by simp [Act.put, Array.getD, ht]
      rw [this]; exact hv
    · have hb : (t' == t) = false := by simp [hi]
      rw [hb] at h
      have h2 := he t' v' h
      have : (a.put (some t) x).tmps.getD t' undef = a.tmps.getD t' undef := by
        simp only [Act.put, getD_toList, Array.toList_setIfInBounds]
        rw [List.getElem?_set, if_neg (Ne.symm hi)]
      rw [this]; exact h2

theorem put_size (a : Act) (d : Option Tmp) (x : Value) : (a.put d x).tmps.size = a.tmps.size := by cases d <;> simp [Act.put]
theorem put_defers (a : Act) (d : Option Tmp) (x : Value) : (a.put d x).defers = a.defers := by cases d <;> rfl

theorem EnvR.mono {α α' : Nat → Option (Nat × Nat)} {S S' : Nat → Prop} {W W' : World} (hα : Al α α') (hS : ∀ b, S b → S' b) (hk : Keeps S W W') {e : Env} {tmps : Array Value} (h : EnvR α S W e tmps) :
    EnvR α' S' W' e tmps := fun t v ht => (h t v ht).mono hα hS hk

theorem AOps.nil {ops : Array Oper} (h : Q .normal st) : AOps P Γ ro N D pin ops [] Q st :=
  fun _ _ W α S B hs _ hR => wpListIn_nil (hR _ _ _ ⟨st, α, S, B, h, hs, Fr.refl S B W, Pin.refl pin α⟩)

theorem AWp.region {id : Nat} {l : List Oper} (h : AOps P Γ ro N D pin l.toArray l Q st) : AWp P Γ ro N D pin (.region id l.toArray false) Q st :=
  fun m a W α S B hs => wpIn_region_lit (h m a W α S B hs _ fun _ _ _ h => h)

theorem AOps.run {ops : Array Oper} {o : Oper} {rest : List Oper} {K : V → Hs → Prop} (hw : ∀ (a : Act) (W : World) (α : Nat → Option (Nat × Nat)) (S B : Nat → Prop), StR Γ N D α S B st a W → Region.wanted o (yielded ops a.tmps) = true)
    (hd : dOk o.dst N = true) (ho : LOp P Γ o st.e st.s K)
    (h : ∀ v s', K v s' → AOps P Γ ro N D pin ops rest Q ⟨putE o.dst v st.e, s'⟩) : AOps P Γ ro N D pin ops (o :: rest) Q st := by
  intro m a W α S B hs R hR
  unfold wpListIn
  rw [if_pos (hw a W α S B hs)]
  refine ho ro m a W α S B _ _ hs.env hs.hp fun v s' x α' S' B' W' hk hv hh hf hal => ?_
  have hkeep : Keeps S W W' := hf.keeps hs.hp.apart hs.hp.sLt
  have hs' : StR Γ N D α' S' B' ⟨putE o.dst v st.e, s'⟩ (a.put o.dst x) W' :=
    ⟨by rw [put_size]; exact hs.size, by rw [put_defers]; exact hs.defers, putE_rel hd hs.size (hs.env.mono hal hf.sub hkeep) hv, hh⟩
  exact h v s' hk m (a.put o.dst x) W' α' S' B' hs' R fun e a₂ w₂ hp => hR _ _ _ (hp.from hf (hal.pin pin))

theorem AOps.step {ops : Array Oper} {o : Oper} {rest : List Oper} {K : V → Hs → Prop} (hg : o.guard = none) (hd : dOk o.dst N = true) (ho : LOp P Γ o st.e st.s K)
    (h : ∀ v s', K v s' → AOps P Γ ro N D pin ops rest Q ⟨putE o.dst v st.e, s'⟩) : AOps P Γ ro N D pin ops (o :: rest) Q st :=
  AOps.run (fun _ _ _ _ _ _ => by simp [Region.wanted, hg]) hd ho h

/-- The common case: one value, one memory. -/
theorem AOps.eq {ops : Array Oper} {o : Oper} {rest : List Oper} {v : V} {s' : Hs} (ho : LOp P Γ o st.e st.s (EqK v s')) (hg : o.guard = none) (hd : dOk o.dst N = true)
    (h : AOps P Γ ro N D pin ops rest Q ⟨putE o.dst v st.e, s'⟩) : AOps P Γ ro N D pin ops (o :: rest) Q st :=
  AOps.step hg hd ho fun v' s'' hk => by obtain ⟨rfl, rfl⟩ := hk; exact h

theorem yielded_of {ops : Array Oper} {j dj : Nat} {b : Bool} {α : Nat → Option (Nat × Nat)} {S B : Nat → Prop} {a : Act} {W : World} (hs : StR Γ N D α S B st a W) (hj : (ops[j]?).bind (·.dst) = some dj)
    (hb : st.e.lookup dj = some (.i (.bool b))) (hn : Nat.blt dj N = true) : yielded ops a.tmps j = some b := by
  have h1 := (hs.env dj _ hb).bool_inv
  have hlt : dj < a.tmps.size := by rw [hs.size]; simpa [Nat.blt_eq] using hn
  have h2 : a.tmps[dj]? = some (.bool b) := by
    rw [← h1]; simp [Array.getD, hlt]
  simp only [yielded, hj, Option.bind_some, h2]

theorem AOps.eqT {ops : Array Oper} {o : Oper} {rest : List Oper} {v : V} {s' : Hs} {j dj : Nat} {w : Bool} (ho : LOp P Γ o st.e st.s (EqK v s')) (hg : o.guard = some (j, w)) (hj : (ops[j]?).bind (·.dst) = some dj)
    (hb : st.e.lookup dj = some (.i (.bool w))) (hn : Nat.blt dj N = true) (hd : dOk o.dst N = true)
    (h : AOps P Γ ro N D pin ops rest Q ⟨putE o.dst v st.e, s'⟩) : AOps P Γ ro N D pin ops (o :: rest) Q st :=
  AOps.run (fun _ _ _ _ _ hs => by simp [Region.wanted, hg, yielded_of hs hj hb hn]) hd ho fun v' s'' hk => by obtain ⟨rfl, rfl⟩ := hk; exact h

theorem AOps.skip {ops : Array Oper} {o : Oper} {rest : List Oper} {j dj : Nat} {w b : Bool} (hg : o.guard = some (j, w)) (hj : (ops[j]?).bind (·.dst) = some dj)
    (hb : st.e.lookup dj = some (.i (.bool b))) (hbw : b = !w) (hn : Nat.blt dj N = true) (hd : dOk o.dst N = true)
    (h : AOps P Γ ro N D pin ops rest Q ⟨putE o.dst .junk st.e, st.s⟩) : AOps P Γ ro N D pin ops (o :: rest) Q st := by
  intro m a W α S B hs R hR
  have hw : Region.wanted o (yielded ops a.tmps) = false := by
    simp only [Region.wanted, hg, yielded_of hs hj hb hn, hbw]
    cases w <;> rfl
  unfold wpListIn
  rw [if_neg (by simp [hw])]
  refine ⟨fun _ _ => trivial, ?_⟩
  exact h m (a.put o.dst undef) W α S B ⟨by rw [put_size]; exact hs.size, by rw [put_defers]; exact hs.defers, putE_rel hd hs.size hs.env (.junk _), hs.hp⟩ R hR

/-- An operation under a test that is not decided: it must write nothing. -/
theorem AOps.eqC {ops : Array Oper} {o : Oper} {rest : List Oper} {v : V} {j dj : Nat} {w b : Bool} (ho : b = w → LOp P Γ o st.e st.s (EqK v st.s)) (hg : o.guard = some (j, w)) (hj : (ops[j]?).bind (·.dst) = some dj)
    (hb : st.e.lookup dj = some (.i (.bool b))) (hn : Nat.blt dj N = true) (hd : dOk o.dst N = true)
    (h : AOps P Γ ro N D pin ops rest Q ⟨putE o.dst (.cond (b == w) v) st.e, st.s⟩) : AOps P Γ ro N D pin ops (o :: rest) Q st := by
  by_cases hbw : b = w
  · subst hbw
    refine AOps.run (fun _ _ _ _ _ hs => by simp [Region.wanted, hg, yielded_of hs hj hb hn]) hd (K := EqK (.cond (b == b) v) st.s) ?_ fun v' s'' hk => by obtain ⟨rfl, rfl⟩ := hk; exact h
    intro ro m a W α S B next Q he hh hn
    refine ho rfl ro m a W α S B next Q he hh fun v' s' x α' S' B' W' hk hv => ?_
    obtain ⟨rfl, rfl⟩ := hk
    exact hn _ _ x α' S' B' W' ⟨rfl, rfl⟩ (.cond _ _ _ fun _ => hv)
  · intro m a W α S B hs R hR
    have hw : Region.wanted o (yielded ops a.tmps) = false := by
      simp only [Region.wanted, hg, yielded_of hs hj hb hn]
      cases w <;> cases b <;> simp_all
    unfold wpListIn
    rw [if_neg (by simp [hw])]
    refine ⟨fun _ _ => trivial, ?_⟩
    refine h m (a.put o.dst undef) W α S B ⟨by rw [put_size]; exact hs.size, by rw [put_defers]; exact hs.defers, putE_rel hd hs.size hs.env (.cond _ _ _ fun hc => absurd (by simpa using hc) hbw), hs.hp⟩ R hR

/-! ### Functions -/

def VRs (α : Nat → Option (Nat × Nat)) (S : Nat → Prop) (W : World) (vs : List V) (xs : Array Value) : Prop :=
  xs.size = vs.length ∧ ∀ i (h : i < vs.length), VR α S W vs[i] (xs.getD i undef)

/-- What a call is said to do, seen by its caller: its names go on. -/
def CallOK (P : Program) (Γ : Glob) (f : FuncId) (args : List V) (s : Hs) (K : V → Hs → Prop) : Prop :=
  ∀ (α : Nat → Option (Nat × Nat)) (S B : Nat → Prop) (W : World) (xs : Array Value), VRs α S W args xs → HRel Γ α S B s W →
    Calls P f xs W fun e W' => ∃ v s' x α' S' B', e = .returned x ∧ K v s' ∧ VR α' S' W' v x ∧ HRel Γ α' S' B' s' W' ∧ Fr S B W S' B' W' ∧ Al α α'

/-- What a call is said to do, seen from within: what was handed in keeps its names. -/
def ACall (P : Program) (Γ : Glob) (f : FuncId) (args : List V) (s : Hs) (K : V → Hs → Prop) : Prop :=
  ∀ (α : Nat → Option (Nat × Nat)) (S B : Nat → Prop) (W : World) (xs : Array Value), VRs α S W args xs → HRel Γ α S B s W →
    Calls P f xs W fun e W' => ∃ v s' x α' S' B', e = .returned x ∧ K v s' ∧ VR α' S' W' v x ∧ HRel Γ α' S' B' s' W' ∧ Fr S B W S' B' W' ∧ Pin s.nx α α'

/-- What a function hands back from a state. -/
def RetV (P : Program) (Γ : Glob) (N : Nat) (D : List Deferred) (fn : Func) (st : St) (v : V) : Prop :=
  ∀ (α : Nat → Option (Nat × Nat)) (S B : Nat → Prop) (a : Act) (W : World), StR Γ N D α S B st a W → ∃ x, (results fn a.tmps).run P W = .ok x W ∧ VR α S W v x

/-- Memory that may be given up. -/
def DropR (Γ : Glob) (s s' : Hs) : Prop := ∀ (α : Nat → Option (Nat × Nat)) (S B : Nat → Prop) (W : World), HRel Γ α S B s W → ∃ B', HRel Γ α S B' s' W ∧ Fr S B W S B' W
theorem DropR.refl (Γ : Glob) (s : Hs) : DropR Γ s s := fun _ S B W h => ⟨B, h, Fr.refl S B W⟩
theorem DropR.of {Γ : Glob} {s : Hs} {hp' : Hp} (hs : hp'.Sublist s.hp) : DropR Γ s { s with hp := hp' } := fun _ S B W h =>
  ⟨_, h.drop hp' hs, ⟨rfl, rfl, rfl, Nat.le_refl _, fun _ _ _ => rfl, fun _ _ h => h, fun _ h => h, fun c hc => .inl hc.1, fun _ h => .inl h⟩⟩

def FnQ (P : Program) (Γ : Glob) (N : Nat) (pin : Nat) (fn : Func) (K : V → Hs → Prop) : Exit → St → Prop := fun x st =>
  (x = .normal ∨ x = .ret) ∧ ∃ st' v s', Gh Γ N [] pin st st' ∧ RetV P Γ N [] fn st' v ∧ DropR Γ st'.s s' ∧ K v s'

def argsE (args : List V) : Env := args.zipIdx.map fun p => (p.2, p.1)

theorem argsE_lookup (args : List V) (t : Nat) (v : V) (h : (argsE args).lookup t = some v) : args[t]? = some v := by
  have key : ∀ (l : List V) (k : Nat), ((l.zipIdx k).map fun p => (p.2, p.1)).lookup t = some v → k ≤ t ∧ l[t - k]? = some v := by
    intro l
    induction l with
    | nil => intro k h; simp at h
    | cons x l ih =>
      intro k h
      simp only [List.zipIdx_cons, List.map_cons, List.lookup_cons] at h
      by_cases hk : t = k
      · subst hk; simp at h; subst h; simp
      · have hb : (t == k) = false := by simp [hk]
        rw [hb] at h
        obtain ⟨h1, h2⟩ := ih (k + 1) h
        refine ⟨by omega, ?_⟩
        rw [show t - k = (t - (k + 1)) + 1 by omega]
        simpa using h2
  exact (by simpa using (key args 0 h).2)

theorem ACall.of_body {f : FuncId} {fn : Func} {c : Code} {args : List V} {s : Hs} {K : V → Hs → Prop} (hf : P.funcs[f]? = some fn) (hb : fn.body = some c) (hN : Nat.ble args.length fn.ntmps = true)
    (h : AWp P Γ none fn.ntmps [] s.nx c (FnQ P Γ fn.ntmps s.nx fn K) ⟨argsE args, s⟩) : ACall P Γ f args s K := by
  intro α S B W xs hxs hh
  refine (callsIn_wide (n := 0)).1 (callsIn_of_wp hf hb trivial ?_ rfl)
  have hst : StR Γ fn.ntmps [] α S B ⟨argsE args, s⟩ { tmps := xs ++ Array.replicate (fn.ntmps - xs.size) undef, defers := [] } W := by
    have hN' : args.length ≤ fn.ntmps := Nat.le_of_ble_eq_true hN
    refine ⟨by have := hxs.1; simp; omega, rfl, fun t v ht => ?_, hh⟩
    have h1 := argsE_lookup args t v ht
    obtain ⟨hlt, rfl⟩ := List.getElem?_eq_some_iff.1 h1
    have h2 := hxs.2 t hlt
    have hlt' : t < xs.size := by rw [hxs.1]; exact hlt
    have : (xs ++ Array.replicate (fn.ntmps - xs.size) undef).getD t undef = xs.getD t undef := by
      simp only [getD_toList, Array.toList_append]
      rw [List.getElem?_append_left (by simpa using hlt')]
    rw [this]; exact h2
  refine wpIn_mono (h 0 _ W α S B hst) fun e a' W' hp => ?_
  obtain ⟨st₁, α₁, S₁, B₁, hq, h1, h2, h3⟩ := hp
  obtain ⟨hx, st₂, v, s₂, hg, hr, hdr, hk⟩ := hq
  obtain ⟨α₂, S₂, B₂, g1, g2, g3⟩ := hg α₁ S₁ B₁ a' W' h1
  obtain ⟨x, hx1, hx2⟩ := hr α₂ S₂ B₂ a' W' g1
  obtain ⟨B₃, d1, d2⟩ := hdr α₂ S₂ B₂ W' g1.hp
  rcases hx with rfl | rfl
  · exact ⟨h1.defers, x, hx1, v, s₂, x, α₂, S₂, B₃, rfl, hk, hx2, d1, (h2.trans g2).trans d2, h3.trans g3⟩
  · exact ⟨h1.defers, x, hx1, v, s₂, x, α₂, S₂, B₃, rfl, hk, hx2, d1, (h2.trans g2).trans d2, h3.trans g3⟩

theorem RetV.one {fn : Func} {t : Tmp} {v : V} (hr : fn.results = #[.tmp t]) (h : st.e.lookup t = some v) : RetV P Γ N D fn st v :=
  fun _ _ _ a W hs => ⟨a.tmps.getD t undef, results_tmp hr a.tmps P W, hs.env t v h⟩

theorem RetV.none {fn : Func} (hr : fn.results = #[]) : RetV P Γ N D fn st (.tup []) :=
  fun _ _ _ a W _ => ⟨.tuple #[], results_none hr a.tmps P W, .tup _ _ rfl fun i h => absurd h (Nat.not_lt_zero i)⟩

theorem RetV.two {fn : Func} {t u : Tmp} {v w : V} (hr : fn.results = #[.tmp t, .tmp u]) (h1 : st.e.lookup t = some v) (h2 : st.e.lookup u = some w) : RetV P Γ N D fn st (.tup [v, w]) :=
  fun _ _ _ a W hs => ⟨.tuple #[a.tmps.getD t undef, a.tmps.getD u undef], results_tmp2 hr a.tmps P W, .tup _ _ rfl fun i h => by
    match i, h with
    | 0, _ => exact hs.env t v h1
    | 1, _ => exact hs.env u w h2⟩

/-! ### Pure functions -/

/-- A value in which nothing is owned. -/
def NoId (v : V) : Prop := ∀ α α' S W x, VR α S W v x → VR α' S W v x

theorem NoId.i (x : I) : NoId (.i x) := fun _ _ _ _ _ h => by cases h with | i _ _ h => exact .i _ _ h
theorem NoId.agg {cs : List V} (h : ∀ c, c ∈ cs → NoId c) : NoId (.agg cs) := fun α α' S W x hx => by
  cases hx with | agg _ xs hl hr => exact .agg _ xs hl fun i hi => h _ (List.getElem_mem hi) α α' S W _ (hr i hi)
theorem NoId.tup {cs : List V} (h : ∀ c, c ∈ cs → NoId c) : NoId (.tup cs) := fun α α' S W x hx => by
  cases hx with | tup _ xs hl hr => exact .tup _ xs hl fun i hi => h _ (List.getElem_mem hi) α α' S W _ (hr i hi)

def NoIds (vs : List V) : Prop := ∀ c, c ∈ vs → NoId c
theorem NoIds.nil : NoIds [] := fun _ h => by cases h
theorem NoIds.cons {v : V} {vs : List V} (h : NoId v) (hs : NoIds vs) : NoIds (v :: vs) := fun c hc => by
  rcases List.mem_cons.1 hc with rfl | hc
  · exact h
  · exact hs c hc

abbrev s0 : Hs := ⟨[], 0, Ext.emp⟩

/-- A function that only computes. -/
def Pure (P : Program) (Γ : Glob) (f : FuncId) (args : List V) (r : V) : Prop := ∀ s, CallOK P Γ f args s (EqK r s)

theorem hrel0 {Γ α S B s W} (h : HRel Γ α S B s W) : HRel Γ (fun _ => none) S (fun _ => False) s0 W where
  glob := h.glob
  ext := ⟨fun _ => False, fun _ h => h, fun _ h => h, fun _ h => h.elim, fun _ h => h.elim⟩
  blk := fun _ _ hm => by cases hm
  nodup := List.nodup_nil
  inj := fun _ _ _ _ hm => by cases hm
  apart := fun _ _ h => h
  sLt := h.sLt
  bLt := fun _ h => h.elim
  aLt := fun _ _ h => by cases h
  kLt := fun _ _ hm => by cases hm

theorem Pure.of {f : FuncId} {args : List V} {r : V} (ha : NoIds args) (hr : NoId r) (h : ACall P Γ f args s0 (fun v _ => v = r)) : Pure P Γ f args r := by
  intro s α S B W xs hxs hh
  refine (h (fun _ => Option.none) S (fun _ => False) W xs ⟨hxs.1, fun i hi => ha _ (List.getElem_mem hi) α _ S W _ (hxs.2 i hi)⟩ (hrel0 hh)).mono fun e W' hq => ?_
  obtain ⟨v, s', x, α', S', B', rfl, rfl, hv, hh', hf, _⟩ := hq
  have hsame : ∀ b, b < W.heap.size → W'.heap[b]? = W.heap[b]? := fun b hb => hf.same b hb id
  have hn : ∀ b, S' b → S b ∨ (W.heap.size ≤ b ∧ b < W'.heap.size) := fun b hb => by
    rcases hf.sealed b hb with h1 | h1 | h1
    · exact .inl h1
    · exact h1.elim
    · exact .inr ⟨h1, hh'.sLt b hb⟩
  exact ⟨v, s, x, α, S', B, rfl, ⟨rfl, rfl⟩, hr α' α S' W' x hv, hh.extend hf.size hsame hf.sub hn, Fr.extend hf.os hf.tape hf.output hf.size hsame hf.sub hn, Al.refl α⟩

theorem mapM_rel {e : Env} {a : Act} {W : World} {α : Nat → Option (Nat × Nat)} {S : Nat → Prop} (he : EnvR α S W e a.tmps) (hg : GlobR Γ S W) :
    ∀ (l : List Operand) (vs : List V), l.mapM (evalE Γ e) = some vs → VRs α S W vs (l.map a.eval).toArray := by
  intro l
  induction l with
  | nil => intro vs h; simp at h; subst h; exact ⟨rfl, fun i hi => absurd hi (Nat.not_lt_zero i)⟩
  | cons y l ih =>
    intro vs h
    simp only [List.mapM_cons, Option.bind_eq_bind, Option.bind_eq_some_iff, Option.pure_def, Option.some.injEq] at h
    obtain ⟨v, hv, ws, hws, rfl⟩ := h
    obtain ⟨h1, h2⟩ := ih ws hws
    refine ⟨by simpa using h1, fun i hi => ?_⟩
    cases i with
    | zero => exact evalE_rel he hg hv
    | succ i =>
      have := h2 i (by simpa using hi)
      rw [getD_toArray] at this ⊢
      simpa using this

theorem op_call {e : Env} {s : Hs} {d : Option Tmp} {ty : TypeId} {pos : String} {af : Array Edge} {g : Option (Nat × Bool)} {f : FuncId} {fn : Func} {args : List Operand} {ts : Array TypeId} {vs : List V} {K : V → Hs → Prop}
    (hf : P.funcs[f]? = some fn) (hb : fn.body.isNone = false) (hn : (fn.name == "runtime.NumGoroutine") = false) (ha : args.mapM (evalE Γ e) = some vs)
    (hc : CallOK P Γ f vs s K) : LOp P Γ ⟨d, .call ⟨.value (.func f), args.toArray, ts⟩, ty, pos, af, g⟩ e s K := by
  intro ro m a W α S B next Q he hh hnext
  refine ⟨about_wide, ?_⟩
  rw [Oper.semAt_eq _ _ _ (fun _ h => by cases h)]
  have hx := mapM_rel he hh.glob args vs ha
  have hrun : (execOp a.eval (⟨d, .call ⟨.value (.func f), args.toArray, ts⟩, ty, pos, af, g⟩ : Oper)).run P W = .ok (.enter f (args.map a.eval).toArray) W := by
    have hn' : ¬ fn.name = "runtime.NumGoroutine" := by simpa using hn
    have hb' : ¬ fn.body = none := fun h => by simp [h] at hb
    simp [execOp, resolve, Act.eval, Deferred.ofValue, invoke, callFunc, hf, hb', hn']
  rw [hrun, Oper.uponIn_enter]
  refine ⟨fun h => absurd h (by simp [Fe]), ?_⟩
  have := hc α S B W _ hx hh
  have key : ∀ R, Calls P f (args.map a.eval).toArray W R → CallsIn (Fe ro) (m - 1) P f (args.map a.eval).toArray W R := fun R h => by
    cases ro with
    | none => exact callsIn_wide.2 h
    | some l => exact CallsIn.inRound l (callsIn_wide.2 h)
  refine (key _ this).mono fun e W' hq => ?_
  obtain ⟨v, s', x, α', S', B', rfl, hk, hv, hh', hf', hal⟩ := hq
  exact hnext v s' x α' S' B' W' hk hv hh' hf' hal

end
end Go.Ab
