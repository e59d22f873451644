/-
  The layer Ab, part 3: owned memory: reading, writing, new blocks.
-/
import Derived.Test.YtnfdggpfidngkaaGreatDoorAbOps
namespace Go.Ab

def setHp (hp : Hp) (id : Nat) (cs : List V) : Hp := hp.map fun p => if p.1 = id then (id, cs) else p

theorem mem_of_lookup {hp : Hp} {id : Nat} {cs : List V} (h : hp.lookup id = some cs) : (id, cs) ∈ hp := by
  induction hp with
  | nil => simp at h
  | cons p rest ih =>
    obtain ⟨i, c⟩ := p
    simp only [List.lookup_cons] at h
    by_cases hi : id = i
    · subst hi
      simp at h
      subst h
      simp
    · have : (id == i) = false := by simp [hi]
      rw [this] at h
      exact List.mem_cons_of_mem _ (ih h)

theorem setHp_keys (hp : Hp) (id : Nat) (cs : List V) : (setHp hp id cs).map (·.1) = hp.map (·.1) := by
  unfold setHp
  rw [List.map_map]
  apply List.map_congr_left
  intro p _
  simp only [Function.comp]
  split <;> simp_all

theorem mem_setHp {hp : Hp} {id i : Nat} {cs c : List V} (h : (i, c) ∈ setHp hp id cs) : (i = id ∧ c = cs) ∨ (i ≠ id ∧ (i, c) ∈ hp) := by
  unfold setHp at h
  obtain ⟨p, hp', he⟩ := List.mem_map.1 h
  split at he
  · simp only [Prod.mk.injEq] at he; exact .inl ⟨he.1.symm, he.2.symm⟩
  · subst he; exact .inr ⟨by assumption, hp'⟩

theorem GlobR.mono {Γ : Glob} {S S' : Nat → Prop} {W W' : World} (hS : ∀ b, S b → S' b) (hk : Keeps S W W') (h : GlobR Γ S W) : GlobR Γ S' W' :=
  fun g cs hg => by
    obtain ⟨h1, h2⟩ := h g cs hg
    refine ⟨hS _ h1, fun i hi => ?_⟩
    obtain ⟨x, hx, hr⟩ := h2 i hi
    exact ⟨x, (cell?_of_heap (hk.same _ h1)).trans hx, hr.mono hS hk⟩

theorem BlkR.mono {α α' : Nat → Option (Nat × Nat)} {S S' : Nat → Prop} {W W' : World} (hα : Al α α') (hS : ∀ b, S b → S' b) (hk : Keeps S W W')
    {cs : List V} {b base : Nat} (hb : W'.heap[b]? = W.heap[b]?) (h : BlkR α S W cs b base) : BlkR α' S' W' cs b base := by
  obtain ⟨xs, ty, h1, h2, h3⟩ := h
  exact ⟨xs, ty, hb.trans h1, h2, fun i hi => (h3 i hi).mono hα hS hk⟩

theorem keeps_of_heap {S : Nat → Prop} {W W' : World} (h : W'.heap = W.heap) : Keeps S W W' :=
  ⟨fun b _ => by rw [h], fun b s hs => by simpa [World.shape?, h] using hs⟩

theorem shape_lt {W : World} {b : Nat} {sh : TypeId × Nat} (h : W.shape? b = some sh) : b < W.heap.size := by
  by_cases hb : b < W.heap.size
  · exact hb
  · have : W.heap[b]? = none := by simp; omega
    simp [World.shape?, this] at h

theorem shape_extend {W W' : World} (hsame : ∀ b, b < W.heap.size → W'.heap[b]? = W.heap[b]?) (b : Nat) (sh : TypeId × Nat) (hb : W.shape? b = some sh) : W'.shape? b = some sh := by
  simpa only [World.shape?, hsame b (shape_lt hb)] using hb

/-- A world that has only grown. -/
theorem HRel.extend {Γ α S B s W W'} (h : HRel Γ α S B s W) (hsz : W.heap.size ≤ W'.heap.size) (hsame : ∀ b, b < W.heap.size → W'.heap[b]? = W.heap[b]?) {S' : Nat → Prop}
    (hS : ∀ b, S b → S' b) (hn : ∀ b, S' b → S b ∨ (W.heap.size ≤ b ∧ b < W'.heap.size)) : HRel Γ α S' B s W' := by
  have hk : Keeps S W W' := ⟨fun b hb => hsame b (h.sLt b hb), fun b sh hb => shape_extend hsame b sh hb⟩
  refine ⟨h.glob.mono hS hk, ?_, ?_, h.nodup, h.inj, ?_, ?_, ?_, h.aLt, h.kLt⟩
  · obtain ⟨Bx, h1, h2, h3, h4⟩ := h.ext
    exact ⟨Bx, s.ex.stable _ _ _ _ _ h1 hS hk (fun b hb => hsame b (h.bLt b (h2 b hb))), h2, h3, h4⟩
  · intro id cs hm
    rcases h.blk id cs hm with ⟨b, base, h1, h2, h3⟩ | h0
    · exact .inl ⟨b, base, h1, h2, h3.mono (Al.refl α) hS hk (hsame b (h.bLt b h2))⟩
    · exact .inr h0
  · intro b hb hB
    rcases hn b hb with h1 | h1
    · exact h.apart b h1 hB
    · have := h.bLt b hB; omega
  · intro b hb
    rcases hn b hb with h1 | h1
    · exact Nat.lt_of_lt_of_le (h.sLt b h1) hsz
    · exact h1.2
  · intro b hb; exact Nat.lt_of_lt_of_le (h.bLt b hb) hsz

theorem Fr.extend {S B : Nat → Prop} {W W' : World} (h1 : W'.os = W.os) (h2 : W'.tape = W.tape) (h3 : W'.output = W.output) (hsz : W.heap.size ≤ W'.heap.size)
    (hsame : ∀ b, b < W.heap.size → W'.heap[b]? = W.heap[b]?) {S' : Nat → Prop} (hS : ∀ b, S b → S' b) (hn : ∀ b, S' b → S b ∨ (W.heap.size ≤ b ∧ b < W'.heap.size)) : Fr S B W S' B W' :=
  ⟨h1, h2, h3, hsz, fun b hb _ => hsame b hb, fun b sh hb => shape_extend hsame b sh hb, hS, fun _ h => .inl h, fun b hb => (hn b hb).imp id fun h => .inr h.1⟩

theorem Fr.drew (S B : Nat → Prop) (W : World) : Fr S B W S B W.drew :=
  Fr.extend (W := W) (W' := W.drew) rfl rfl rfl (Nat.le_refl _) (fun _ _ => rfl) (fun _ h => h) (fun _ h => .inl h)

theorem HRel.drew {Γ α S B s W} (h : HRel Γ α S B s W) : HRel Γ α S B s W.drew := h.extend (W' := W.drew) (Nat.le_refl _) (fun _ _ => rfl) (fun _ h => h) (fun _ h => .inl h)

theorem shape_setRow {W : World} {g : Nat} {xs ys : Array Value} {ty : TypeId} {fr : Nat × Nat} (hg : W.heap[g]? = some (.cells xs ty fr)) (hs : ys.size = xs.size) (b : Nat)
    (sh : TypeId × Nat) (h : W.shape? b = some sh) : (W.setRow g ys).shape? b = some sh := by
  by_cases hb : b = g
  · subst hb
    simp only [World.shape?, hg] at h
    simp only [World.shape?, setRow_heap W b xs ys ty fr hg]
    rw [hs]; exact h
  · simpa only [World.shape?, setRow_other W g b ys hb] using h

theorem keeps_setRow {S : Nat → Prop} {W : World} {g : Nat} {xs ys : Array Value} {ty : TypeId} {fr : Nat × Nat} (hg : W.heap[g]? = some (.cells xs ty fr)) (hs : ys.size = xs.size) (hn : ¬ S g) :
    Keeps S W (W.setRow g ys) :=
  ⟨fun b hb => setRow_other W g b ys (fun e => hn (e ▸ hb)), fun b sh h => shape_setRow hg hs b sh h⟩

theorem key_of_mem {hp : Hp} {id : Nat} {cs : List V} (h : (id, cs) ∈ hp) : id ∈ hp.map (·.1) := List.mem_map.2 ⟨_, h, rfl⟩

/-- A store into an owned block. -/
theorem HRel.write {Γ α S B s W} (h : HRel Γ α S B s W) {id b base : Nat} {cs cs' : List V} {xs ys : Array Value} {ty : TypeId} (hm : (id, cs) ∈ s.hp) (hb : α id = some (b, base))
    (hx : W.heap[b]? = some (.cells xs ty (0, 0))) (hsz : ys.size = xs.size) (hl : base + cs'.length ≤ ys.size) (hr : ∀ i (h : i < cs'.length), VR α S W cs'[i] (ys.getD (base + i) undef)) :
    HRel Γ α S B { s with hp := setHp s.hp id cs' } (W.setRow b ys) ∧ Fr S B W S B (W.setRow b ys) := by
  have hBb : B b := by
    rcases h.blk id cs hm with ⟨b', base', h1, h2, _⟩ | ⟨_, h0⟩
    · rw [hb] at h1; cases h1; exact h2
    · rw [hb] at h0; cases h0
  have hn : ¬ S b := fun hs => h.apart b hs hBb
  have hk : Keeps S W (W.setRow b ys) := keeps_setRow hx hsz hn
  have hkey : id ∈ s.hp.map (·.1) := key_of_mem hm
  refine ⟨?_, ⟨rfl, rfl, rfl, by simp, fun c _ hc => setRow_other W b c ys (fun e => hc (e ▸ hBb)), fun c sh hc => shape_setRow hx hsz c sh hc, fun _ h => h, fun _ h => .inl h, fun _ h => .inl h⟩⟩
  refine ⟨h.glob.mono (fun _ h => h) hk, ?_, ?_, by rw [setHp_keys]; exact h.nodup, by rw [setHp_keys]; exact h.inj, h.apart, fun c hc => by simpa using h.sLt c hc, fun c hc => by simpa using h.bLt c hc, h.aLt, ?_⟩
  · obtain ⟨Bx, h1, h2, h3, h4⟩ := h.ext
    refine ⟨Bx, s.ex.stable _ _ _ _ _ h1 (fun _ h => h) hk (fun c hc => setRow_other W b c ys (fun e => h3 c hc id cs _ hm hb e.symm)), h2, fun c hc i k q hi => ?_, fun c hc => ?_⟩
    · rcases mem_setHp hi with ⟨rfl, _⟩ | ⟨_, hi'⟩
      · exact h3 c hc i cs q hm
      · exact h3 c hc i k q hi'
    · rcases h4 c hc with h5 | ⟨i, k, q, h5, h6, h7⟩
      · exact .inl h5
      · by_cases hi : i = id
        · refine .inr ⟨i, cs', q, ?_, h6, h7⟩
          unfold setHp
          exact List.mem_map.2 ⟨(i, k), h5, by simp [hi]⟩
        · refine .inr ⟨i, k, q, ?_, h6, h7⟩
          unfold setHp
          exact List.mem_map.2 ⟨(i, k), h5, by simp [hi]⟩
  · intro i k hi
    rcases mem_setHp hi with ⟨rfl, rfl⟩ | ⟨hne, hi'⟩
    · exact .inl ⟨b, base, hb, hBb, ys, ty, setRow_heap W b xs ys ty _ hx, hl, fun j hj => (hr j hj).mono (Al.refl α) (fun _ h => h) hk⟩
    · rcases h.blk i k hi' with ⟨b', base', h1, h2, h3⟩ | h0
      · have hbb : b' ≠ b := fun e => hne (h.inj i id _ _ (key_of_mem hi') hkey h1 hb e)
        exact .inl ⟨b', base', h1, h2, h3.mono (Al.refl α) (fun _ h => h) hk (setRow_other W b b' ys hbb)⟩
      · exact .inr h0
  · intro i k hi
    rcases mem_setHp hi with ⟨rfl, _⟩ | ⟨_, hi'⟩
    · exact h.kLt i cs hm
    · exact h.kLt i k hi'

def upd (α : Nat → Option (Nat × Nat)) (i b base : Nat) : Nat → Option (Nat × Nat) := fun j => if j = i then some (b, base) else α j

theorem upd_same (α : Nat → Option (Nat × Nat)) (i b base : Nat) : upd α i b base i = some (b, base) := by simp [upd]

theorem HRel.al_upd {Γ α S B s W} (h : HRel Γ α S B s W) (b base : Nat) : Al α (upd α s.nx b base) := fun i q hi => by
  unfold upd; split
  · rename_i e; subst e; exact absurd (h.aLt _ _ hi) (Nat.lt_irrefl _)
  · exact hi

theorem keeps_alloc {S : Nat → Prop} {W : World} {o : Obj} (hl : ∀ b, S b → b < W.heap.size) : Keeps S W (W.alloc o) :=
  ⟨fun b hb => heap_alloc_old W o b (hl b hb), fun b sh h => shape_extend (fun b hb => heap_alloc_old W o b hb) b sh h⟩

/-- Naming a block that nothing names: it is the heap's last one, or one that was given up. -/
theorem HRel.name {Γ α S B s W} (h : HRel Γ α S B s W) {cs : List V} {b base : Nat} (hb : BlkR α S W cs b base) (hS : ¬ S b) (hlt : b < W.heap.size)
    (hB : ∀ id c q, (id, c) ∈ s.hp → α id = some q → q.1 ≠ b) (hE : ¬ B b) :
    HRel Γ (upd α s.nx b base) S (fun c => B c ∨ c = b) { s with hp := (s.nx, cs) :: s.hp, nx := s.nx + 1 } W := by
  have hα := h.al_upd b base
  have hk : Keeps S W W := Keeps.refl S W
  have hkeys : s.nx ∉ s.hp.map (·.1) := fun hm => by
    obtain ⟨⟨i, c⟩, hi, he⟩ := List.mem_map.1 hm
    have := h.kLt i c hi
    simp only at he; omega
  have hold : ∀ i q, i ∈ s.hp.map (·.1) → upd α s.nx b base i = some q → α i = some q := fun i q hm hi => by
    have hne : i ≠ s.nx := fun e => hkeys (e ▸ hm)
    simpa [upd, hne] using hi
  have hfar : ∀ i q, i ∈ s.hp.map (·.1) → α i = some q → q.1 ≠ b := fun i q hm hi => by
    obtain ⟨⟨j, c⟩, hj, he⟩ := List.mem_map.1 hm
    simp only at he; subst he
    exact hB j c q hj hi
  refine ⟨h.glob, ?_, ?_, ?_, ?_, ?_, h.sLt, ?_, ?_, ?_⟩
  · obtain ⟨Bx, h1, h2, h3, h4⟩ := h.ext
    refine ⟨Bx, h1, fun c hc => .inl (h2 c hc), ?_, ?_⟩
    · intro c hc id k q hm hq
      rcases List.mem_cons.1 hm with he | hm'
      · cases he
        rw [upd_same] at hq; cases hq
        intro e; simp only at e; subst e; exact hE (h2 _ hc)
      · exact h3 c hc id k q hm' (hold id q (key_of_mem hm') hq)
    · rintro c (hc | rfl)
      · rcases h4 c hc with h5 | ⟨i, k, q, h5, h6, h7⟩
        · exact .inl h5
        · exact .inr ⟨i, k, q, List.mem_cons_of_mem _ h5, hα i q h6, h7⟩
      · exact .inr ⟨s.nx, cs, _, List.mem_cons_self, upd_same α s.nx c base, rfl⟩
  · intro id k hm
    rcases List.mem_cons.1 hm with he | hm'
    · cases he
      exact .inl ⟨b, base, upd_same α s.nx b base, .inr rfl, hb.mono hα (fun _ h => h) hk rfl⟩
    · rcases h.blk id k hm' with ⟨b', base', h1, h2, h3⟩ | ⟨h1, h2⟩
      · exact .inl ⟨b', base', hα _ _ h1, .inl h2, h3.mono hα (fun _ h => h) hk rfl⟩
      · have hne : id ≠ s.nx := fun e => hkeys (e ▸ key_of_mem hm')
        exact .inr ⟨h1, by simp [upd, hne, h2]⟩
  · simp only [List.map_cons, List.nodup_cons]
    exact ⟨hkeys, h.nodup⟩
  · intro i j q r hi hj hq hr hqr
    simp only [List.map_cons, List.mem_cons] at hi hj
    rcases hi with rfl | hi <;> rcases hj with rfl | hj
    · rfl
    · rw [upd_same] at hq; cases hq
      exact absurd hqr.symm (hfar j r hj (hold j r hj hr))
    · rw [upd_same] at hr; cases hr
      exact absurd hqr (hfar i q hi (hold i q hi hq))
    · exact h.inj i j q r hi hj (hold i q hi hq) (hold j r hj hr) hqr
  · rintro c hc (hB' | rfl)
    · exact h.apart c hc hB'
    · exact hS hc
  · rintro c (hc | rfl)
    · exact h.bLt c hc
    · exact hlt
  · intro i q hi
    unfold upd at hi
    split at hi
    · rename_i e; subst e; exact Nat.lt_succ_self _
    · exact Nat.lt_succ_of_lt (h.aLt i q hi)
  · intro i k hm
    rcases List.mem_cons.1 hm with he | hm'
    · cases he; exact Nat.lt_succ_self _
    · exact Nat.lt_succ_of_lt (h.kLt i k hm')

/-- A new block. -/
theorem HRel.alloc {Γ α S B s W} (h : HRel Γ α S B s W) {cs : List V} {xs : Array Value} {ty : TypeId} (hl : cs.length ≤ xs.size) (hr : ∀ i (h : i < cs.length), VR α S W cs[i] (xs.getD i undef)) :
    HRel Γ (upd α s.nx W.heap.size 0) S (fun b => B b ∨ b = W.heap.size) { s with hp := (s.nx, cs) :: s.hp, nx := s.nx + 1 } (W.alloc (.cells xs ty)) ∧
    Fr S B W S (fun b => B b ∨ b = W.heap.size) (W.alloc (.cells xs ty)) ∧ Al α (upd α s.nx W.heap.size 0) := by
  have hk : Keeps S W (W.alloc (.cells xs ty)) := keeps_alloc h.sLt
  have h1 := h.extend (W' := W.alloc (.cells xs ty)) (by simp) (fun b hb => heap_alloc_old W _ b hb) (S' := S) (fun _ h => h) (fun _ h => .inl h)
  refine ⟨h1.name ⟨xs, ty, heap_alloc_new W _, by omega, fun i hi => ?_⟩ (fun hs => Nat.lt_irrefl _ (h.sLt _ hs)) (by simp) (fun id c q hm hq e => ?_) (fun hb => Nat.lt_irrefl _ (h.bLt _ hb)),
    ⟨rfl, rfl, rfl, by simp, fun b hb _ => heap_alloc_old W _ b hb, fun b sh hb => shape_extend (fun b hb => heap_alloc_old W _ b hb) b sh hb, fun _ h => h, fun b hb => ?_, fun _ h => .inl h⟩, h.al_upd _ _⟩
  · rw [Nat.zero_add]; exact (hr i hi).mono (Al.refl α) (fun _ h => h) hk
  · rcases h.blk id c hm with ⟨b', base', h2, h3, _⟩ | ⟨_, h2⟩
    · rw [hq] at h2; cases h2
      have := h.bLt _ h3
      simp only at e; omega
    · rw [hq] at h2; cases h2
  · rcases hb with hb | rfl
    · exact .inl hb
    · exact .inr (Nat.le_refl _)

/-- Owned memory is given up. -/
theorem HRel.drop {Γ α S B s W} (h : HRel Γ α S B s W) (hp' : Hp) (hs : hp'.Sublist s.hp) :
    HRel Γ α S (fun b => B b ∧ ∀ id cs q, (id, cs) ∈ s.hp → (id, cs) ∉ hp' → α id = some q → q.1 ≠ b) { s with hp := hp' } W := by
  have hmem : ∀ p, p ∈ hp' → p ∈ s.hp := fun p hp => hs.subset hp
  have hkey : ∀ i, i ∈ hp'.map (·.1) → i ∈ s.hp.map (·.1) := fun i hi => (hs.map (·.1)).subset hi
  have huniq : ∀ i c c', (i, c) ∈ s.hp → (i, c') ∈ s.hp → c = c' := fun i c c' hc hc' => by
    have hnd := h.nodup
    generalize s.hp = l at hc hc' hnd
    induction l with
    | nil => cases hc
    | cons p l ih =>
      simp only [List.map_cons, List.nodup_cons] at hnd
      rcases List.mem_cons.1 hc with rfl | h1 <;> rcases List.mem_cons.1 hc' with h2 | h2
      · cases h2; rfl
      · exact absurd (key_of_mem h2) hnd.1
      · subst h2; exact absurd (key_of_mem h1) hnd.1
      · exact ih h1 h2 hnd.2
  refine ⟨h.glob, ?_, ?_, (hs.map (·.1)).nodup h.nodup, fun i j q r hi hj => h.inj i j q r (hkey i hi) (hkey j hj), fun b hb hB => h.apart b hb hB.1, h.sLt, fun b hb => h.bLt b hb.1, h.aLt, fun i c hm => h.kLt i c (hmem _ hm)⟩
  · obtain ⟨Bx, h1, h2, h3, h4⟩ := h.ext
    refine ⟨Bx, h1, fun b hb => ⟨h2 b hb, fun id cs q hm _ hq => h3 b hb id cs q hm hq⟩, fun b hb id cs q hm => h3 b hb id cs q (hmem _ hm), fun b hb => ?_⟩
    rcases h4 b hb.1 with h5 | ⟨id, cs, q, h5, h6, h7⟩
    · exact .inl h5
    · by_cases hin : (id, cs) ∈ hp'
      · exact .inr ⟨id, cs, q, hin, h6, h7⟩
      · exact absurd h7 (hb.2 id cs q h5 hin h6)
  · intro id cs hm
    rcases h.blk id cs (hmem _ hm) with ⟨b, base, h1, h2, h3⟩ | h0
    · refine .inl ⟨b, base, h1, ⟨h2, fun i c q hi hni hq e => ?_⟩, h3⟩
      have : i = id := h.inj i id q _ (key_of_mem hi) (key_of_mem (hmem _ hm)) hq h1 e
      subst this
      exact hni (huniq _ _ _ (hmem _ hm) hi ▸ hm)
    · exact .inr h0

end Go.Ab
