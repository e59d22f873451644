/-
  The layer Ab, part 13: a contract in its own names, used where there is more memory under other names.
-/
import Derived.Test.YtnfdggpfidngkaaGreatDoorAbDs
namespace Go.Ab

theorem Ren.rv {α α' : Nat → Option (Nat × Nat)} {S : Nat → Prop} {W : World} {ρ : Nat → Nat} {n : Nat} (hα : ∀ j, j < n → α' (ρ j) = α j) {v' v : V} (h : Ren ρ n v' v) : ∀ {x : Value}, VR α S W v' x → VR α' S W v x := by
  induction h with
  | i x => intro x hx; cases hx with | i _ _ hx => exact .i _ _ hx
  | p id off h => intro x hx; cases hx with | p _ _ b base hb => exact .p _ off b base (by rw [hα _ h]; exact hb)
  | sl id off len k h =>
    intro x hx
    cases hx with
    | sl _ _ _ _ b base cap N ty hb hs hN hc => exact .sl _ off len k b base cap N ty (by rw [hα _ h]; exact hb) hs hN hc
    | sl0 _ _ _ b o => exact .sl0 _ _ _ _ _
    | slnil => exact .slnil _ _ _
  | agg cs' cs hl _ ih => intro x hx; cases hx with | agg _ xs h1 h2 => exact .agg _ xs (by omega) fun i hi => ih i (by omega) hi (h2 i (by omega))
  | tup cs' cs hl _ ih => intro x hx; cases hx with | tup _ xs h1 h2 => exact .tup _ xs (by omega) fun i hi => ih i (by omega) hi (h2 i (by omega))
  | fn f as' as cs' cs hl1 _ hl _ ih1 ih =>
    intro x hx
    cases hx with
    | fn _ _ _ xs ys h1 h2 hr1 hr2 => exact .fn f _ _ xs ys (by omega) (by omega) (fun i hi => ih1 i (by omega) hi (hr1 i (by omega))) (fun i hi => ih i (by omega) hi (hr2 i (by omega)))
  | cond b v' v _ ih => intro x hx; cases hx with | cond _ _ _ hx => exact .cond _ _ _ fun hb => ih (hx hb)
  | junk => intro x _; exact .junk _

/-- The names of what a call has made, behind the caller's own. -/
def shiftR (ρ : Nat → Nat) (nx0 nx : Nat) : Nat → Nat := fun j => if j < nx0 then ρ j else nx + (j - nx0)

/-- Two memories, name by name. -/
inductive HpRen (ρ : Nat → Nat) (n : Nat) : Hp → Hp → Prop
  | nil : HpRen ρ n [] []
  | cons {id : Nat} {cs' cs : List V} {hp' hp : Hp} (hn : id < n) (h : RenL ρ n cs' cs) (hs : HpRen ρ n hp' hp) : HpRen ρ n ((id, cs') :: hp') ((ρ id, cs) :: hp)

theorem HpRen.mem {ρ : Nat → Nat} {n : Nat} {hp' hp : Hp} (h : HpRen ρ n hp' hp) : ∀ i cs, (i, cs) ∈ hp → ∃ j cs', i = ρ j ∧ j < n ∧ (j, cs') ∈ hp' ∧ RenL ρ n cs' cs := by
  induction h with
  | nil => intro i cs h; cases h
  | cons hn h _ ih =>
    intro i cs hm
    rcases List.mem_cons.1 hm with he | hm
    · cases he; exact ⟨_, _, rfl, hn, List.mem_cons_self, h⟩
    · obtain ⟨j, cs', h1, h2, h3, h4⟩ := ih i cs hm
      exact ⟨j, cs', h1, h2, List.mem_cons_of_mem _ h3, h4⟩

theorem HpRen.mem' {ρ : Nat → Nat} {n : Nat} {hp' hp : Hp} (h : HpRen ρ n hp' hp) : ∀ j cs', (j, cs') ∈ hp' → j < n ∧ ∃ cs, (ρ j, cs) ∈ hp ∧ RenL ρ n cs' cs := by
  induction h with
  | nil => intro i cs h; cases h
  | cons hn h _ ih =>
    intro i cs hm
    rcases List.mem_cons.1 hm with he | hm
    · cases he; exact ⟨hn, _, List.mem_cons_self, h⟩
    · obtain ⟨h1, cs, h2, h3⟩ := ih i cs hm
      exact ⟨h1, cs, List.mem_cons_of_mem _ h2, h3⟩

theorem HpRen.keys {ρ : Nat → Nat} {n : Nat} {hp' hp : Hp} (h : HpRen ρ n hp' hp) : hp.map (·.1) = (hp'.map (·.1)).map ρ := by
  induction h with
  | nil => rfl
  | cons _ _ _ ih => simp [ih]

section
variable {P : Program} {Γ : Glob}

open Classical in
theorem CallOK.of {f : FuncId} {args0 args : List V} {hp0 hp0' hp' rest : Hp} {nx0 nx0' : Nat} {r0 r : V} {s : Hs} (h : ACall P Γ f args0 ⟨hp0, nx0, Ext.emp⟩ (EqK r0 ⟨hp0', nx0', Ext.emp⟩)) (hle : nx0 ≤ nx0') (ρ : Nat → Nat)
    (hρ : ∀ j, j < nx0 → ρ j < s.nx) (hinj : ∀ i j, i < nx0 → j < nx0 → ρ i = ρ j → i = j) (hargs : RenL ρ nx0 args0 args) (hhp : HpR ρ nx0 s.hp hp0) (hnd : (hp0.map (·.1)).Nodup)
    (hrest : rest.Sublist s.hp) (hfar : ∀ i, i ∈ rest.map (·.1) → ∀ j, j < nx0 → ρ j ≠ i) (hr : Ren (shiftR ρ nx0 s.nx) nx0' r0 r) (hhp' : HpRen (shiftR ρ nx0 s.nx) nx0' hp0' hp') :
    CallOK P Γ f args s (EqK r ⟨hp' ++ rest, s.nx + (nx0' - nx0), s.ex⟩) := by
  intro α S B W xs hxs hh
  obtain ⟨Bx, x1, x2, x3, x4⟩ := hh.ext
  -- the callee's own view
  have hkey0 : ∀ i, i ∈ hp0.map (·.1) → i < nx0 ∧ ρ i ∈ s.hp.map (·.1) := fun i hi => by
    obtain ⟨p, hp, rfl⟩ := List.mem_map.1 hi
    obtain ⟨h1, cs, h2, _⟩ := hhp p hp
    exact ⟨h1, key_of_mem h2⟩
  let B0 : Nat → Prop := fun b => ∃ id cs q, (id, cs) ∈ hp0 ∧ renα α ρ nx0 id = some q ∧ q.1 = b
  have hB0 : ∀ b, B0 b → B b ∧ ¬ Bx b := by
    rintro b ⟨id, cs, q, hm, hq, rfl⟩
    obtain ⟨h1, cs1, h2, _⟩ := hhp _ hm
    rw [renα_lt h1] at hq
    refine ⟨?_, fun hb => x3 _ hb _ _ q h2 hq rfl⟩
    rcases hh.blk _ _ h2 with ⟨b', base, k1, k2, _⟩ | ⟨_, k1⟩
    · rw [hq] at k1; cases k1; exact k2
    · rw [hq] at k1; cases k1
  have hrel0 : HRel Γ (renα α ρ nx0) S B0 ⟨hp0, nx0, Ext.emp⟩ W := by
    refine ⟨hh.glob, ⟨fun _ => False, fun _ h => h, fun _ h => h.elim, fun _ h => h.elim, fun b hb => .inr hb⟩, fun id cs hm => ?_, hnd, fun i j q r hi hj hq hr hqr => ?_, fun b hb hB => hh.apart b hb (hB0 b hB).1, hh.sLt, fun b hb => hh.bLt b (hB0 b hb).1, fun i q hi => ?_, fun id cs hm => (hhp _ hm).1⟩
    · obtain ⟨h1, cs0, h2, h3⟩ := hhp _ hm
      rcases hh.blk _ _ h2 with ⟨b, base, k1, k2, ys, ty, k3, k4, k5⟩ | ⟨k1, k2⟩
      · have ha : renα α ρ nx0 id = some (b, base) := by rw [renα_lt h1]; exact k1
        refine .inl ⟨b, base, ha, ⟨id, cs, _, hm, ha, rfl⟩, ys, ty, k3, by have := h3.1; simp only at this; omega, fun i hi => ?_⟩
        have hi0 : i < cs0.length := by have := h3.1; simp only at this; omega
        exact (h3.2 i hi hi0).vr (k5 i hi0)
      · refine .inr ⟨?_, by rw [renα_lt h1]; exact k2⟩
        exact h3.void k1
    · obtain ⟨h1, h2⟩ := hkey0 i hi
      obtain ⟨h3, h4⟩ := hkey0 j hj
      rw [renα_lt h1] at hq
      rw [renα_lt h3] at hr
      exact hinj i j h1 h3 (hh.inj _ _ q r h2 h4 hq hr hqr)
    · unfold renα at hi
      split at hi
      · assumption
      · cases hi
  have hxs0 : VRs (renα α ρ nx0) S W args0 xs := ⟨hxs.1.trans hargs.1.symm, fun i hi => (hargs.2 i hi (by have := hargs.1; omega)).vr (hxs.2 i (by have := hargs.1; omega))⟩
  refine (h (renα α ρ nx0) S B0 W xs hxs0 hrel0).mono fun e W' hq => ?_
  obtain ⟨v, s', x, α', S', B', rfl, ⟨rfl, rfl⟩, hv, hh', hf, hpin⟩ := hq
  obtain ⟨Bx', y1, y2, y3, y4⟩ := hh'.ext
  have hBx' : ∀ b, ¬ Bx' b := y1
  -- the caller's names
  let α'' : Nat → Option (Nat × Nat) := fun i => if hj : ∃ j, j < nx0 ∧ ρ j = i then α' hj.choose else if i < s.nx then α i else α' (i - s.nx + nx0)
  have e1 : ∀ j, j < nx0 → α'' (ρ j) = α' j := fun j hj => by
    have hex : ∃ k, k < nx0 ∧ ρ k = ρ j := ⟨j, hj, rfl⟩
    have : hex.choose = j := hinj _ _ hex.choose_spec.1 hj hex.choose_spec.2
    simp only [α'', dif_pos hex, this]
  have e2 : ∀ j, j < nx0' → α'' (shiftR ρ nx0 s.nx j) = α' j := fun j hj => by
    unfold shiftR
    split
    · rename_i h1; exact e1 j h1
    · rename_i h1
      have hno : ¬ ∃ k, k < nx0 ∧ ρ k = s.nx + (j - nx0) := by
        rintro ⟨k, h2, h3⟩
        have := hρ k h2; omega
      simp only [α'', dif_neg hno]
      rw [if_neg (by omega)]
      congr 1; omega
  have e3 : ∀ i, i < s.nx → (∀ j, j < nx0 → ρ j ≠ i) → α'' i = α i := fun i hi hno => by
    have hno' : ¬ ∃ k, k < nx0 ∧ ρ k = i := by rintro ⟨k, h2, h3⟩; exact hno k h2 h3
    simp only [α'', dif_neg hno', if_pos hi]
  have hal : Al α α'' := fun i q hq => by
    have hi := hh.aLt i q hq
    by_cases hex : ∃ j, j < nx0 ∧ ρ j = i
    · obtain ⟨j, hj, rfl⟩ := hex
      rw [e1 j hj]
      exact hpin j q hj (by rw [renα_lt hj]; exact hq)
    · rw [e3 i hi (fun j hj he => hex ⟨j, hj, he⟩)]; exact hq
  have hkeep : Keeps S W W' := hf.keeps hrel0.apart hrel0.sLt
  have hB' : ∀ b, B' b → B0 b ∨ W.heap.size ≤ b := hf.own
  have hsame : ∀ b, b < W.heap.size → ¬ B0 b → W'.heap[b]? = W.heap[b]? := hf.same
  have hmr : ∀ p, p ∈ rest → p ∈ s.hp := fun p hp => hrest.subset hp
  have hkr : ∀ i, i ∈ rest.map (·.1) → i ∈ s.hp.map (·.1) := fun i hi => (hrest.map (·.1)).subset hi
  have hklt : ∀ i, i ∈ s.hp.map (·.1) → i < s.nx := fun i hi => by
    obtain ⟨⟨j, c⟩, hj, rfl⟩ := List.mem_map.1 hi
    exact hh.kLt j c hj
  have eR : ∀ i, i ∈ rest.map (·.1) → α'' i = α i := fun i hi => e3 i (hklt i (hkr i hi)) (hfar i hi)
  -- a block of the rest is none of the callee's
  have hrB0 : ∀ i cs q, (i, cs) ∈ rest → α i = some q → ¬ B0 q.1 := by
    rintro i cs q hm hq ⟨id, c, r, hm2, hr2, he⟩
    obtain ⟨h1, cs1, h2, _⟩ := hhp _ hm2
    rw [renα_lt h1] at hr2
    have := hh.inj _ _ r q (key_of_mem h2) (key_of_mem (hmr _ hm)) hr2 hq he
    exact hfar i (key_of_mem hm) id h1 this
  have hrB : ∀ i cs q, (i, cs) ∈ s.hp → α i = some q → B q.1 := fun i cs q hm hq => by
    rcases hh.blk i cs hm with ⟨b, base, k1, k2, _⟩ | ⟨_, k1⟩
    · rw [hq] at k1; cases k1; exact k2
    · rw [hq] at k1; cases k1
  have hcalB : ∀ j cs q, (j, cs) ∈ hp0' → α' j = some q → B' q.1 := fun j cs q hm hq => by
    rcases hh'.blk j cs hm with ⟨b, base, k1, k2, _⟩ | ⟨_, k1⟩
    · rw [hq] at k1; cases k1; exact k2
    · rw [hq] at k1; cases k1
  let B'' : Nat → Prop := fun b => B' b ∨ (B b ∧ ¬ B0 b ∧ (Bx b ∨ ∃ i cs q, (i, cs) ∈ rest ∧ α i = some q ∧ q.1 = b))
  have hlt'' : ∀ b, B b → b < W.heap.size := hh.bLt
  refine ⟨r, _, x, α'', S', B'', rfl, ⟨rfl, rfl⟩, hr.rv e2 hv, ?_, ?_, hal⟩
  · refine ⟨hh'.glob, ⟨Bx, ?_, fun b hb => .inr ⟨x2 b hb, fun h0 => (hB0 b h0).2 hb, .inl hb⟩, ?_, ?_⟩, ?_, ?_, ?_, ?_, hh'.sLt, ?_, ?_, ?_⟩
    · exact s.ex.stable _ _ _ _ _ x1 hf.sub hkeep (fun b hb => hsame b (hlt'' b (x2 b hb)) (fun h0 => (hB0 b h0).2 hb))
    · intro b hb id cs q hm hq e
      rcases List.mem_append.1 hm with hm | hm
      · obtain ⟨j, cs', rfl, hj, hm', _⟩ := hhp'.mem _ _ hm
        rw [e2 j hj] at hq
        rcases hB' _ (hcalB j cs' q hm' hq) with h1 | h1
        · exact (hB0 _ h1).2 (e ▸ hb)
        · have := hlt'' b (x2 b hb); omega
      · rw [eR id (key_of_mem hm)] at hq
        exact x3 b hb id cs q (hmr _ hm) hq e
    · rintro b (hb | ⟨_, _, hb | ⟨i, cs, q, hm, hq, rfl⟩⟩)
      · rcases y4 b hb with h1 | ⟨j, cs, q, h1, h2, h3⟩
        · exact absurd h1 (hBx' b)
        · obtain ⟨hj, cs2, h4, _⟩ := hhp'.mem' _ _ h1
          exact .inr ⟨_, cs2, q, List.mem_append_left _ h4, by rw [e2 j hj]; exact h2, h3⟩
      · exact .inl hb
      · exact .inr ⟨i, cs, q, List.mem_append_right _ hm, by rw [eR i (key_of_mem hm)]; exact hq, rfl⟩
    · intro id cs hm
      rcases List.mem_append.1 hm with hm | hm
      · obtain ⟨j, cs', rfl, hj, hm', hren⟩ := hhp'.mem _ _ hm
        rcases hh'.blk j cs' hm' with ⟨b, base, k1, k2, ys, ty, k3, k4, k5⟩ | ⟨k1, k2⟩
        · refine .inl ⟨b, base, by rw [e2 j hj]; exact k1, .inl k2, ys, ty, k3, by have := hren.1; omega, fun i hi => ?_⟩
          have hi0 : i < cs'.length := by have := hren.1; omega
          exact (hren.2 i hi0 hi).rv e2 (k5 i hi0)
        · refine .inr ⟨?_, by rw [e2 j hj]; exact k2⟩
          exact hren.void' k1
      · rcases hh.blk id cs (hmr _ hm) with ⟨b, base, k1, k2, k3⟩ | ⟨k1, k2⟩
        · have hn0 := hrB0 id cs _ hm k1
          exact .inl ⟨b, base, by rw [eR id (key_of_mem hm)]; exact k1, .inr ⟨k2, hn0, .inr ⟨id, cs, _, hm, k1, rfl⟩⟩, k3.mono hal hf.sub hkeep (hsame b (hlt'' b k2) hn0)⟩
        · exact .inr ⟨k1, by rw [eR id (key_of_mem hm)]; exact k2⟩
    · rw [List.map_append, List.nodup_append]
      refine ⟨?_, (hrest.map (·.1)).nodup hh.nodup, fun a ha b hb e => ?_⟩
      · rw [hhp'.keys]
        have hnd' := hh'.nodup
        have hl : ∀ j, j ∈ hp0'.map (·.1) → j < nx0' := fun j hj => by
          obtain ⟨⟨i, c⟩, hm, rfl⟩ := List.mem_map.1 hj
          exact hh'.kLt i c hm
        have sinj : ∀ i j, i < nx0' → j < nx0' → shiftR ρ nx0 s.nx i = shiftR ρ nx0 s.nx j → i = j := fun i j _ _ he => by
          unfold shiftR at he
          split at he <;> split at he
          · exact hinj i j (by assumption) (by assumption) he
          · have := hρ i (by assumption); omega
          · have := hρ j (by assumption); omega
          · omega
        have gen : ∀ (ks : List Nat), ks.Nodup → (∀ j, j ∈ ks → j < nx0') → (ks.map (shiftR ρ nx0 s.nx)).Nodup := by
          intro ks
          induction ks with
          | nil => intro _ _; exact List.nodup_nil
          | cons k ks ih =>
            intro hnd hl
            simp only [List.nodup_cons] at hnd
            simp only [List.map_cons, List.nodup_cons]
            refine ⟨fun hm => ?_, ih hnd.2 (fun j hj => hl j (List.mem_cons_of_mem _ hj))⟩
            obtain ⟨k', hk', he⟩ := List.mem_map.1 hm
            have := sinj k' k (hl k' (List.mem_cons_of_mem _ hk')) (hl k List.mem_cons_self) he
            subst this; exact hnd.1 hk'
        exact gen _ hnd' hl
      · subst e
        rw [hhp'.keys] at ha
        obtain ⟨j, hj, rfl⟩ := List.mem_map.1 ha
        unfold shiftR at hb
        split at hb
        · exact hfar _ hb j (by assumption) rfl
        · have := hklt _ (hkr _ hb); omega
    · -- names of one block are one
      have sinj : ∀ i j q r, (∃ cs, (i, cs) ∈ hp0') → (∃ cs, (j, cs) ∈ hp0') → α' i = some q → α' j = some r → q.1 = r.1 → i = j := fun i j q r ⟨c, hc⟩ ⟨c', hc'⟩ => hh'.inj i j q r (key_of_mem hc) (key_of_mem hc')
      intro i j q r hi hj hq hr hqr
      rw [List.map_append, List.mem_append] at hi hj
      have left : ∀ i, i ∈ hp'.map (·.1) → ∃ k, i = shiftR ρ nx0 s.nx k ∧ k < nx0' ∧ ∃ cs, (k, cs) ∈ hp0' := fun i hi => by
        obtain ⟨⟨i', c⟩, hm, rfl⟩ := List.mem_map.1 hi
        obtain ⟨k, cs', h1, h2, h3, _⟩ := hhp'.mem _ _ hm
        exact ⟨k, h1, h2, cs', h3⟩
      have clash : ∀ k q i r, k < nx0' → (∃ cs, (k, cs) ∈ hp0') → α' k = some q → i ∈ rest.map (·.1) → α i = some r → q.1 = r.1 → False := by
        rintro k q i r hk ⟨cs, hcs⟩ hq hi hr he
        obtain ⟨⟨i', c⟩, hm, rfl⟩ := List.mem_map.1 hi
        rcases hB' _ (hcalB k cs q hcs hq) with h1 | h1
        · exact hrB0 i' c r hm hr (he ▸ h1)
        · have := hlt'' _ (hrB i' c r (hmr _ hm) hr); omega
      rcases hi with hi | hi <;> rcases hj with hj | hj
      · obtain ⟨k, rfl, hk, hkm⟩ := left i hi
        obtain ⟨k', rfl, hk', hkm'⟩ := left j hj
        rw [e2 k hk] at hq
        rw [e2 k' hk'] at hr
        rw [sinj k k' q r hkm hkm' hq hr hqr]
      · obtain ⟨k, rfl, hk, hkm⟩ := left i hi
        rw [e2 k hk] at hq
        rw [eR j hj] at hr
        exact (clash k q j r hk hkm hq hj hr hqr).elim
      · obtain ⟨k, rfl, hk, hkm⟩ := left j hj
        rw [e2 k hk] at hr
        rw [eR i hi] at hq
        exact (clash k r i q hk hkm hr hi hq hqr.symm).elim
      · rw [eR i hi] at hq
        rw [eR j hj] at hr
        exact hh.inj i j q r (hkr i hi) (hkr j hj) hq hr hqr
    · rintro b hb (h1 | ⟨h1, h2, _⟩)
      · exact hh'.apart b hb h1
      · rcases hf.sealed b hb with h3 | h3 | h3
        · exact hh.apart b h3 h1
        · exact h2 h3
        · have := hlt'' b h1; omega
    · rintro b (h1 | ⟨h1, _⟩)
      · exact hh'.bLt b h1
      · exact Nat.lt_of_lt_of_le (hlt'' b h1) hf.size
    · intro i q hi
      simp only [α''] at hi
      split at hi
      · rename_i hex
        have := hex.choose_spec
        have h1 := hρ _ this.1
        rw [this.2] at h1
        simp only; omega
      · split at hi
        · simp only; omega
        · have := hh'.aLt _ q hi
          simp only at this ⊢; omega
    · intro i cs hm
      rcases List.mem_append.1 hm with hm | hm
      · obtain ⟨j, cs', rfl, hj, _⟩ := hhp'.mem _ _ hm
        simp only [shiftR]
        split
        · have := hρ j (by assumption); omega
        · omega
      · have := hh.kLt i cs (hmr _ hm)
        simp only; omega
  · refine ⟨hf.os, hf.tape, hf.output, hf.size, fun b hb hn => hsame b hb (fun h0 => hn (hB0 b h0).1), hf.shape, hf.sub, fun b hb => ?_, fun b hb => ?_⟩
    · rcases hb with h1 | ⟨h1, _⟩
      · rcases hB' b h1 with h2 | h2
        · exact .inl (hB0 b h2).1
        · exact .inr h2
      · exact .inl h1
    · rcases hf.sealed b hb with h1 | h1 | h1
      · exact .inl h1
      · exact .inr (.inl (hB0 b h1).1)
      · exact .inr (.inr h1)

end
end Go.Ab
