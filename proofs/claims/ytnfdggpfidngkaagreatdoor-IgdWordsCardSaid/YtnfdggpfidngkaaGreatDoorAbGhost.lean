/-
  The layer Ab, part 8: ghost steps: names are changed, memory is given up, or sealed; loops.
-/
import Derived.Test.YtnfdggpfidngkaaGreatDoorAbCode
namespace Go.Ab

/-- The second value under the names of the first one. -/
inductive Ren (ρ : Nat → Nat) (n : Nat) : V → V → Prop
  | i (x : I) : Ren ρ n (.i x) (.i x)
  | p (id off : Nat) (h : id < n) : Ren ρ n (.p id off) (.p (ρ id) off)
  | sl (id off len k : Nat) (h : id < n) : Ren ρ n (.sl id off len k) (.sl (ρ id) off len k)
  | agg (cs' cs : List V) (hl : cs'.length = cs.length) (h : ∀ i (h1 : i < cs'.length) (h2 : i < cs.length), Ren ρ n cs'[i] cs[i]) : Ren ρ n (.agg cs') (.agg cs)
  | tup (cs' cs : List V) (hl : cs'.length = cs.length) (h : ∀ i (h1 : i < cs'.length) (h2 : i < cs.length), Ren ρ n cs'[i] cs[i]) : Ren ρ n (.tup cs') (.tup cs)
  | fn (f : Fn) (as' as cs' cs : List V) (hl1 : as'.length = as.length) (h1 : ∀ i (h1 : i < as'.length) (h2 : i < as.length), Ren ρ n as'[i] as[i])
      (hl : cs'.length = cs.length) (h : ∀ i (h1 : i < cs'.length) (h2 : i < cs.length), Ren ρ n cs'[i] cs[i]) : Ren ρ n (.fn f as' cs') (.fn f as cs)
  | cond (b : Bool) (v' v : V) (h : Ren ρ n v' v) : Ren ρ n (.cond b v') (.cond b v)
  | junk : Ren ρ n .junk .junk

theorem Ren.int {ρ : Nat → Nat} {n : Nat} {k : IntKind} {a b : Int} (h : a = b) : Ren ρ n (.i (.int k a)) (.i (.int k b)) := by subst h; exact .i _
theorem Ren.ieq {ρ : Nat → Nat} {n : Nat} {x y : I} (h : x = y) : Ren ρ n (.i x) (.i y) := by subst h; exact .i _
theorem Ren.peq {ρ : Nat → Nat} {n id id' off : Nat} (h : id < n) (hr : ρ id = id') : Ren ρ n (.p id off) (.p id' off) := by subst hr; exact .p _ _ h
theorem Ren.sleq {ρ : Nat → Nat} {n id id' off off' len len' k : Nat} (h : id < n) (hr : ρ id = id') (ho : off = off') (hl : len = len') : Ren ρ n (.sl id off len k) (.sl id' off' len' k) := by
  subst hr ho hl; exact .sl _ _ _ _ h

def RenL (ρ : Nat → Nat) (n : Nat) (cs' cs : List V) : Prop := cs'.length = cs.length ∧ ∀ i (h1 : i < cs'.length) (h2 : i < cs.length), Ren ρ n cs'[i] cs[i]

theorem RenL.nil (ρ : Nat → Nat) (n : Nat) : RenL ρ n [] [] := ⟨rfl, fun i h => absurd h (Nat.not_lt_zero i)⟩
theorem RenL.cons {ρ : Nat → Nat} {n : Nat} {v' v : V} {cs' cs : List V} (h : Ren ρ n v' v) (hs : RenL ρ n cs' cs) : RenL ρ n (v' :: cs') (v :: cs) :=
  ⟨by simp [hs.1], fun i h1 h2 => by
    cases i with
    | zero => exact h
    | succ i => exact hs.2 i (by simpa using h1) (by simpa using h2)⟩
theorem RenL.void {ρ : Nat → Nat} {n : Nat} {cs' cs : List V} (h : RenL ρ n cs' cs) (hv : cs = [] ∨ cs = [dead]) : cs' = [] ∨ cs' = [dead] := by
  rcases hv with rfl | rfl
  · exact .inl (List.eq_nil_of_length_eq_zero (by simpa using h.1))
  · match cs', h with
    | [], h => exact absurd h.1 (by simp)
    | [v], h =>
      have := h.2 0 (by simp) (by simp)
      simp only [List.getElem_cons_zero, dead] at this
      cases this; exact .inr rfl
    | _ :: _ :: _, h => exact absurd h.1 (by simp)
theorem RenL.void' {ρ : Nat → Nat} {n : Nat} {cs' cs : List V} (h : RenL ρ n cs' cs) (hv : cs' = [] ∨ cs' = [dead]) : cs = [] ∨ cs = [dead] := by
  rcases hv with rfl | rfl
  · exact .inl (List.eq_nil_of_length_eq_zero (by simpa using h.1.symm))
  · match cs, h with
    | [], h => exact absurd h.1 (by simp)
    | [v], h =>
      have := h.2 0 (by simp) (by simp)
      simp only [List.getElem_cons_zero, dead] at this
      cases this; exact .inr rfl
    | _ :: _ :: _, h => exact absurd h.1 (by simp)
theorem RenL.mapI (ρ : Nat → Nat) (n : Nat) (l : List I) : RenL ρ n (l.map V.i) (l.map V.i) := ⟨rfl, fun i h1 h2 => by simp only [List.getElem_map]; exact .i _⟩
theorem RenL.mapIeq {ρ : Nat → Nat} {n : Nat} {l : List I} {cs : List V} (h : l.map V.i = cs) : RenL ρ n (l.map V.i) cs := by subst h; exact RenL.mapI ρ n l
theorem RenL.append {ρ : Nat → Nat} {n : Nat} {as' as bs' bs : List V} (h : RenL ρ n as' as) (k : RenL ρ n bs' bs) : RenL ρ n (as' ++ bs') (as ++ bs) :=
  ⟨by simp [h.1, k.1], fun i h1 h2 => by
    by_cases hi : i < as'.length
    · rw [List.getElem_append_left hi, List.getElem_append_left (h.1 ▸ hi)]; exact h.2 i hi (h.1 ▸ hi)
    · have hl := h.1
      have hlen : i < as'.length + bs'.length := by simpa using h1
      rw [List.getElem_append_right (by omega), List.getElem_append_right (by omega)]
      have := k.2 (i - as'.length) (by omega) (by have := k.1; omega)
      simpa only [hl] using this⟩
theorem Ren.aggL {ρ : Nat → Nat} {n : Nat} {cs' cs : List V} (h : RenL ρ n cs' cs) : Ren ρ n (.agg cs') (.agg cs) := .agg _ _ h.1 h.2
theorem Ren.tupL {ρ : Nat → Nat} {n : Nat} {cs' cs : List V} (h : RenL ρ n cs' cs) : Ren ρ n (.tup cs') (.tup cs) := .tup _ _ h.1 h.2

def renα (α : Nat → Option (Nat × Nat)) (ρ : Nat → Nat) (n : Nat) : Nat → Option (Nat × Nat) := fun i => if i < n then α (ρ i) else none

theorem renα_lt {α : Nat → Option (Nat × Nat)} {ρ : Nat → Nat} {n i : Nat} (h : i < n) : renα α ρ n i = α (ρ i) := by simp [renα, h]

theorem Ren.vr {α : Nat → Option (Nat × Nat)} {S : Nat → Prop} {W : World} {ρ : Nat → Nat} {n : Nat} {v' v : V} (h : Ren ρ n v' v) : ∀ {x : Value}, VR α S W v x → VR (renα α ρ n) S W v' x := by
  induction h with
  | i x => intro x hx; cases hx with | i _ _ hx => exact .i _ _ hx
  | p id off h => intro x hx; cases hx with | p _ _ b base hb => exact .p id off b base (by rw [renα_lt h]; exact hb)
  | sl id off len k h =>
    intro x hx
    cases hx with
    | sl _ _ _ _ b base cap N ty hb hs hN hc => exact .sl id off len k b base cap N ty (by rw [renα_lt h]; exact hb) hs hN hc
    | sl0 _ _ _ b o => exact .sl0 _ _ _ _ _
    | slnil => exact .slnil _ _ _
  | agg cs' cs hl _ ih => intro x hx; cases hx with | agg _ xs h1 h2 => exact .agg _ xs (by omega) fun i hi => ih i hi (by omega) (h2 i (by omega))
  | tup cs' cs hl _ ih => intro x hx; cases hx with | tup _ xs h1 h2 => exact .tup _ xs (by omega) fun i hi => ih i hi (by omega) (h2 i (by omega))
  | fn f as' as cs' cs hl1 _ hl _ ih1 ih =>
    intro x hx
    cases hx with
    | fn _ _ _ xs ys h1 h2 hr1 hr2 => exact .fn f _ _ xs ys (by omega) (by omega) (fun i hi => ih1 i hi (by omega) (hr1 i (by omega))) (fun i hi => ih i hi (by omega) (hr2 i (by omega)))
  | cond b v' v _ ih => intro x hx; cases hx with | cond _ _ _ hx => exact .cond _ _ _ fun hb => ih (hx hb)
  | junk => intro x _; exact .junk _

/-- Temporaries, under new names. -/
def KeepR (ρ : Nat → Nat) (n : Nat) (e e' : Env) : Prop := ∀ p, p ∈ e' → ∃ v, e.lookup p.1 = some v ∧ Ren ρ n p.2 v
theorem KeepR.nil {ρ : Nat → Nat} {n : Nat} {e : Env} : KeepR ρ n e [] := fun _ h => by cases h
theorem KeepR.cons {ρ : Nat → Nat} {n : Nat} {e e' : Env} {t : Nat} {v' v : V} (h : e.lookup t = some v) (hr : Ren ρ n v' v) (hs : KeepR ρ n e e') : KeepR ρ n e ((t, v') :: e') := fun p hp => by
  rcases List.mem_cons.1 hp with rfl | hp
  · exact ⟨v, h, hr⟩
  · exact hs p hp

/-- Owned memory, under new names. -/
def HpR (ρ : Nat → Nat) (n : Nat) (hp hp' : Hp) : Prop := ∀ p, p ∈ hp' → p.1 < n ∧ ∃ cs, (ρ p.1, cs) ∈ hp ∧ RenL ρ n p.2 cs
theorem HpR.nil {ρ : Nat → Nat} {n : Nat} {hp : Hp} : HpR ρ n hp [] := fun _ h => by cases h
theorem HpR.cons {ρ : Nat → Nat} {n : Nat} {hp hp' : Hp} {id : Nat} {cs' cs : List V} (hn : Nat.blt id n = true) (h : hp.lookup (ρ id) = some cs) (hr : RenL ρ n cs' cs) (hs : HpR ρ n hp hp') : HpR ρ n hp ((id, cs') :: hp') := fun p hm => by
  rcases List.mem_cons.1 hm with rfl | hm
  · exact ⟨by simpa [Nat.blt_eq] using hn, cs, mem_of_lookup h, hr⟩
  · exact hs p hm

section
variable {P : Program} {Γ : Glob} {ro : Option Nat} {N : Nat} {D : List Deferred} {pin : Nat} {Q : Exit → St → Prop} {st : St}

theorem Gh.re (ρ : Nat → Nat) {e' : Env} {hp' : Hp} {nx' : Nat} (hpin : ∀ i, i < pin → ρ i = i ∧ i < nx') (hinj : ∀ i j, i ∈ hp'.map (·.1) → j ∈ hp'.map (·.1) → ρ i = ρ j → i = j)
    (hnd : (hp'.map (·.1)).Nodup) (he : KeepR ρ nx' st.e e') (hh : HpR ρ nx' st.s.hp hp') : Gh Γ N D pin st ⟨e', ⟨hp', nx', st.s.ex⟩⟩ := by
  intro α S B a W hs
  have h := hs.hp
  obtain ⟨Bx, x1, x2, x3, x4⟩ := h.ext
  have hkey : ∀ i, i ∈ hp'.map (·.1) → i < nx' ∧ ρ i ∈ st.s.hp.map (·.1) := fun i hi => by
    obtain ⟨p, hp, rfl⟩ := List.mem_map.1 hi
    obtain ⟨h1, cs, h2, _⟩ := hh p hp
    exact ⟨h1, key_of_mem h2⟩
  refine ⟨renα α ρ nx', S, fun b => B b ∧ (Bx b ∨ ∃ id cs q, (id, cs) ∈ hp' ∧ renα α ρ nx' id = some q ∧ q.1 = b), ⟨hs.size, hs.defers, fun t v ht => ?_, ?_⟩,
    ⟨rfl, rfl, rfl, Nat.le_refl _, fun _ _ _ => rfl, fun _ _ h => h, fun _ h => h, fun b hb => .inl hb.1, fun _ h => .inl h⟩, fun i q hi hq => ?_⟩
  · have hm : ∀ (l : Env), l.lookup t = some v → (t, v) ∈ l := fun l => by
      induction l with
      | nil => simp
      | cons p l ih =>
        obtain ⟨i, c⟩ := p
        intro hl
        simp only [List.lookup_cons] at hl
        by_cases hi : t = i
        · subst hi; simp at hl; subst hl; simp
        · have hb : (t == i) = false := by simp [hi]
          rw [hb] at hl
          exact List.mem_cons_of_mem _ (ih hl)
    obtain ⟨w, h1, h2⟩ := he (t, v) (hm e' ht)
    exact h2.vr (hs.env t w h1)
  · refine ⟨h.glob, ⟨Bx, x1, fun b hb => ⟨x2 b hb, .inl hb⟩, fun b hb id cs q hm hq => ?_, fun b hb => hb.2⟩, fun id cs hm => ?_, hnd, fun i j q r hi hj hq hr hqr => ?_, fun b hb hB => h.apart b hb hB.1, h.sLt, fun b hb => h.bLt b hb.1, fun _ _ hi => ?_, fun id cs hm => (hh _ hm).1⟩
    · obtain ⟨h1, cs0, h2, _⟩ := hh _ hm
      rw [renα_lt h1] at hq
      exact x3 b hb _ _ q h2 hq
    · obtain ⟨h1, cs0, h2, h3⟩ := hh _ hm
      rcases h.blk _ _ h2 with ⟨b, base, k1, k2, xs, ty, k3, k4, k5⟩ | ⟨k1, k2⟩
      · have ha : renα α ρ nx' id = some (b, base) := by rw [renα_lt h1]; exact k1
        refine .inl ⟨b, base, ha, ⟨k2, .inr ⟨id, cs, _, hm, ha, rfl⟩⟩, xs, ty, k3, by have := h3.1; simp only at this; omega, fun i hi => ?_⟩
        have hi0 : i < cs0.length := by have := h3.1; simp only at this; omega
        exact (h3.2 i hi hi0).vr (k5 i hi0)
      · refine .inr ⟨?_, by rw [renα_lt h1]; exact k2⟩
        exact h3.void k1
    · obtain ⟨h1, h2⟩ := hkey i hi
      obtain ⟨h3, h4⟩ := hkey j hj
      rw [renα_lt h1] at hq
      rw [renα_lt h3] at hr
      exact hinj i j hi hj (h.inj _ _ q r h2 h4 hq hr hqr)
    · unfold renα at hi
      split at hi
      · assumption
      · cases hi
  · have hpi := hpin i hi
    rw [renα_lt hpi.2, hpi.1]; exact hq

/-- Without new names. -/
theorem Gh.to {e' : Env} {hp' : Hp} {nx' : Nat} (hpin : Nat.ble pin nx' = true) (hnd : (hp'.map (·.1)).Nodup) (he : KeepR id nx' st.e e') (hh : HpR id nx' st.s.hp hp') :
    Gh Γ N D pin st ⟨e', ⟨hp', nx', st.s.ex⟩⟩ :=
  Gh.re id (fun _ hi => ⟨rfl, Nat.lt_of_lt_of_le hi (Nat.le_of_ble_eq_true hpin)⟩) (fun _ _ _ _ h => h) hnd he hh

theorem AOps.ghost {ops : Array Oper} {l : List Oper} {st' : St} (hg : Gh Γ N D pin st st') (h : AOps P Γ ro N D pin ops l Q st') : AOps P Γ ro N D pin ops l Q st := fun m a W α S B hs R hR => by
  obtain ⟨α₁, S₁, B₁, h1, h2, h3⟩ := hg α S B a W hs
  exact h m a W α₁ S₁ B₁ h1 R fun e a₂ W₂ hp => hR _ _ _ (hp.from h2 h3)

theorem AWp.loopG {ι : Type} {c : Code} (J : ι → St) (μ : ι → Nat) (i0 : ι) (h0 : Gh Γ N D pin st (J i0))
    (h : ∀ i, AWp P Γ ro N D pin c (Exit.thenA (fun st' => ∃ j, Gh Γ N D pin st' (J j) ∧ μ j < μ i) Q) (J i)) : AWp P Γ ro N D pin (.loop c) Q st := by
  refine AWp.ghost h0 ?_
  intro m a W α S B hs
  have key : ∀ k i, μ i < k → ∀ (a₁ : Act) (W₁ : World) (α₁ : Nat → Option (Nat × Nat)) (S₁ B₁ : Nat → Prop), StR Γ N D α₁ S₁ B₁ (J i) a₁ W₁ → Fr S B W S₁ B₁ W₁ → Pin pin α α₁ →
      Code.roundsIn (Fe ro) m P c (Post Γ N D pin α S B W Q) k a₁ W₁ := by
    intro k
    induction k with
    | zero => intro i hi; exact absurd hi (Nat.not_lt_zero _)
    | succ k ih =>
      intro i hi a₁ W₁ α₁ S₁ B₁ hs₁ hf hp
      rw [roundsIn_succ]
      refine wpIn_mono (h i m a₁ W₁ α₁ S₁ B₁ hs₁) fun e a₂ W₂ hq => ?_
      obtain ⟨st₂, α₂, S₂, B₂, h1, h2, h3, h4⟩ := hq
      cases e with
      | normal =>
        obtain ⟨j, hg, hj⟩ := h1
        obtain ⟨α₃, S₃, B₃, g1, g2, g3⟩ := hg α₂ S₂ B₂ a₂ W₂ h2
        exact ih j (by omega) a₂ W₂ α₃ S₃ B₃ g1 ((hf.trans h3).trans g2) ((hp.trans h4).trans g3)
      | exit id => exact ⟨st₂, α₂, S₂, B₂, h1, h2, hf.trans h3, hp.trans h4⟩
      | goto l => exact ⟨st₂, α₂, S₂, B₂, h1, h2, hf.trans h3, hp.trans h4⟩
      | ret => exact ⟨st₂, α₂, S₂, B₂, h1, h2, hf.trans h3, hp.trans h4⟩
      | panic c => exact ⟨st₂, α₂, S₂, B₂, h1, h2, hf.trans h3, hp.trans h4⟩
      | outgrown => exact ⟨st₂, α₂, S₂, B₂, h1, h2, hf.trans h3, hp.trans h4⟩
  exact wpIn_loop_rounds (μ i0 + 1) (key _ i0 (Nat.lt_succ_self _) a W α S B hs (Fr.refl S B W) (Pin.refl pin α))

/-- The ways through a piece of code meet in one state. -/
theorem AWp.meet {c : Code} {K : St → Prop} {Q' : Exit → St → Prop} (M : St) (h : AWp P Γ ro N D pin c (Exit.thenA (fun st' => Gh Γ N D pin st' M) Q) st) (hK : K M)
    (hKG : ∀ st', Gh Γ N D pin st' M → K M → K st') (hQ : Q' = Exit.thenA K Q) : AWp P Γ ro N D pin c Q' st := by
  subst hQ
  exact h.mono fun x st' hx => by
    cases x with
    | normal => exact hKG st' hx hK
    | exit id => exact hx
    | goto l => exact hx
    | ret => exact hx
    | panic c => exact hx
    | outgrown => exact hx

theorem AWp.seqMeet {x y : Code} (M : St) (h : AWp P Γ ro N D pin x (Exit.thenA (fun st' => Gh Γ N D pin st' M) Q) st) (hy : AWp P Γ ro N D pin y Q M) : AWp P Γ ro N D pin (.seq x y) Q st :=
  AWp.seq (AWp.meet M h hy (fun _ hg hk => AWp.ghost hg hk) rfl)

def delHp (hp : Hp) (id : Nat) : Hp := hp.filter fun p => !(Nat.beq p.1 id)

theorem mem_delHp {hp : Hp} {id i : Nat} {cs : List V} : (i, cs) ∈ delHp hp id ↔ (i, cs) ∈ hp ∧ i ≠ id := by
  have hb : ∀ a b : Nat, Nat.beq a b = true ↔ a = b := fun a b => ⟨Nat.eq_of_beq_eq_true, fun h => by subst h; exact Nat.beq_refl _⟩
  simp only [delHp, List.mem_filter, Bool.not_eq_true', ne_eq, and_congr_right_iff]
  intro _
  rw [← hb i id]
  cases Nat.beq i id <;> simp

theorem delHp_sub (hp : Hp) (id : Nat) : (delHp hp id).Sublist hp := List.filter_sublist

/-- Memory that is read-only from now on. -/
theorem HRel.seal1 {Γ α S B s W} (h : HRel Γ α S B s W) {b : Nat} (hb : ¬ B b) (hlt : b < W.heap.size) : HRel Γ α (fun c => S c ∨ c = b) B s W := by
  have hS : ∀ c, S c → (S c ∨ c = b) := fun _ h => .inl h
  have hk : Keeps S W W := Keeps.refl S W
  refine ⟨h.glob.mono hS hk, ?_, ?_, h.nodup, h.inj, ?_, ?_, h.bLt, h.aLt, h.kLt⟩
  · obtain ⟨Bx, h1, h2, h3, h4⟩ := h.ext
    exact ⟨Bx, s.ex.stable _ _ _ _ _ h1 hS hk (fun _ _ => rfl), h2, h3, h4⟩
  · intro id cs hm
    rcases h.blk id cs hm with ⟨b', base, h1, h2, h3⟩ | h0
    · exact .inl ⟨b', base, h1, h2, h3.mono (Al.refl α) hS hk rfl⟩
    · exact .inr h0
  · rintro c (hc | rfl) hB
    · exact h.apart c hc hB
    · exact hb hB
  · rintro c (hc | rfl)
    · exact h.sLt c hc
    · exact hlt

theorem HRel.dropped {α : Nat → Option (Nat × Nat)} {B : Nat → Prop} {s : Hs} {id b base : Nat} {cs : List V} (hm : (id, cs) ∈ s.hp) (hb : α id = some (b, base)) :
    ¬ (B b ∧ ∀ i c q, (i, c) ∈ s.hp → (i, c) ∉ delHp s.hp id → α i = some q → q.1 ≠ b) := fun hB => hB.2 id cs _ hm (fun hc => (mem_delHp.1 hc).2 rfl) hb rfl

/-- A slice of a block of one's own becomes read-only. -/
theorem Gh.sealed {t id off n k : Nat} {cs : List V} {es : List I} (hl : st.e.lookup t = some (.sl id off n k)) (hm : st.s.hp.lookup id = some cs) (hle : off + n * k ≤ cs.length)
    (hc : (cs.drop off).take (n * k) = es.map V.i) : Gh Γ N D pin st ⟨(t, .i (.vec es n k)) :: st.e, { st.s with hp := delHp st.s.hp id }⟩ := by
  intro α S B a W hs
  have hv := hs.env t _ hl
  have hlen : es.length = n * k := by have := congrArg List.length hc; simp at this; omega
  have hd := hs.hp.drop (delHp st.s.hp id) (delHp_sub _ _)
  have henv : ∀ (S' : Nat → Prop), (∀ c, S c → S' c) → VR α S' W (.i (.vec es n k)) (a.tmps.getD t undef) → EnvR α S' W ((t, .i (.vec es n k)) :: st.e) a.tmps := fun S' hS hv' t' v ht => by
    simp only [List.lookup_cons] at ht
    by_cases hi : t' = t
    · subst hi; simp at ht; subst ht; exact hv'
    · have hb : (t' == t) = false := by simp [hi]
      rw [hb] at ht
      exact (hs.env t' v ht).mono (Al.refl α) hS (Keeps.refl S W)
  generalize a.tmps.getD t undef = x at hv henv
  cases hv with
  | sl _ _ _ _ b base cap NN ty hα hsh hN hcap =>
    obtain ⟨xs, tt, k3, k4, k5⟩ := hs.hp.blkAt hm hα
    have hBb : B b := by
      rcases hs.hp.blk id cs (mem_of_lookup hm) with ⟨b', base', h1, h2, _⟩ | ⟨_, h0⟩
      · rw [hα] at h1; cases h1; exact h2
      · rw [hα] at h0; cases h0
    have hlt := hs.hp.bLt b hBb
    refine ⟨α, fun c => S c ∨ c = b, _, ⟨hs.size, hs.defers, henv _ (fun _ h => .inl h) (.i _ _ ?_), hd.seal1 (HRel.dropped (mem_of_lookup hm) hα) hlt⟩,
      ⟨rfl, rfl, rfl, Nat.le_refl _, fun _ _ _ => rfl, fun _ _ h => h, fun _ h => .inl h, fun c hc => .inl hc.1, fun c hc => ?_⟩, Pin.refl pin α⟩
    · refine .vec es n k b (base + off) cap (fun i => xs.getD (base + (off + i)) undef) (.inr rfl) hlen hcap (fun i hi => ?_) (fun i hi => ?_)
      · rw [cell_of_row W b _ xs tt _ k3]
        have : base + off + i < xs.size := by omega
        simp [Array.getD, ← Nat.add_assoc, this]
      · have h1 := k5 (off + i) (by omega)
        have h2 : cs[off + i]'(by omega) = V.i es[i] := by
          have h3 : ((cs.drop off).take (n * k))[i]? = (es.map V.i)[i]? := by rw [hc]
          rw [List.getElem?_take, if_pos (by omega), List.getElem?_drop, List.getElem?_map, List.getElem?_eq_getElem (by omega), List.getElem?_eq_getElem hi] at h3
          simpa using h3
        rw [h2] at h1
        cases h1 with | i _ _ h1 => exact h1.mono (fun _ h => .inl h) (Keeps.refl S W)
    · rcases hc with hc | rfl
      · exact .inl hc
      · exact .inr (.inl hBb)
  | sl0 _ _ _ b o =>
    have : es = [] := List.eq_nil_of_length_eq_zero (by simpa using hlen)
    subst this
    exact ⟨α, S, _, ⟨hs.size, hs.defers, henv S (fun _ h => h) (.i _ _ (.emp _ _ _ _)), hd⟩, ⟨rfl, rfl, rfl, Nat.le_refl _, fun _ _ _ => rfl, fun _ _ h => h, fun _ h => h, fun c hc => .inl hc.1, fun _ h => .inl h⟩, Pin.refl pin α⟩
  | slnil =>
    have : es = [] := List.eq_nil_of_length_eq_zero (by simpa using hlen)
    subst this
    exact ⟨α, S, _, ⟨hs.size, hs.defers, henv S (fun _ h => h) (.i _ _ (.nil _)), hd⟩, ⟨rfl, rfl, rfl, Nat.le_refl _, fun _ _ _ => rfl, fun _ _ h => h, fun _ h => h, fun c hc => .inl hc.1, fun _ h => .inl h⟩, Pin.refl pin α⟩

end
end Go.Ab
