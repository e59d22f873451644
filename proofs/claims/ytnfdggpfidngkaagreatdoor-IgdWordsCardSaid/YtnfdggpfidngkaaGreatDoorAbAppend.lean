/-
  The layer Ab, part 10: append; a text of bytes.
-/
import Derived.Test.YtnfdggpfidngkaaGreatDoorAbApp
namespace Go.Ab

/-- A block that is nobody's is written. -/
theorem HRel.poke {Γ α S B s W} (h : HRel Γ α S B s W) {b : Nat} {xs ys : Array Value} {ty : TypeId} {fr : Nat × Nat} (hx : W.heap[b]? = some (.cells xs ty fr)) (hsz : ys.size = xs.size) (hS : ¬ S b) (hB : ¬ B b) :
    HRel Γ α S B s (W.setRow b ys) := by
  have hk : Keeps S W (W.setRow b ys) := keeps_setRow hx hsz hS
  have hne : ∀ c, B c → c ≠ b := fun c hc e => hB (e ▸ hc)
  refine ⟨h.glob.mono (fun _ h => h) hk, ?_, ?_, h.nodup, h.inj, h.apart, fun c hc => by simpa using h.sLt c hc, fun c hc => by simpa using h.bLt c hc, h.aLt, h.kLt⟩
  · obtain ⟨Bx, h1, h2, h3, h4⟩ := h.ext
    exact ⟨Bx, s.ex.stable _ _ _ _ _ h1 (fun _ h => h) hk (fun c hc => setRow_other W b c ys (hne c (h2 c hc))), h2, h3, h4⟩
  · intro id cs hm
    rcases h.blk id cs hm with ⟨b', base, h1, h2, h3⟩ | h0
    · exact .inl ⟨b', base, h1, h2, h3.mono (Al.refl α) (fun _ h => h) hk (setRow_other W b b' ys (hne b' h2))⟩
    · exact .inr h0

/-- An empty slice's name stands for no block. -/
theorem HRel.nameNone {Γ α S B s W} (h : HRel Γ α S B s W) : HRel Γ α S B { s with hp := (s.nx, []) :: s.hp, nx := s.nx + 1 } W := by
  have hnone : α s.nx = none := by
    cases hq : α s.nx with
    | none => rfl
    | some q => exact absurd (h.aLt _ _ hq) (Nat.lt_irrefl _)
  have hkeys : s.nx ∉ s.hp.map (·.1) := fun hm => by
    obtain ⟨⟨i, c⟩, hi, he⟩ := List.mem_map.1 hm
    have := h.kLt i c hi
    simp only at he; omega
  have hin : ∀ i q, i ∈ s.nx :: s.hp.map (·.1) → α i = some q → i ∈ s.hp.map (·.1) := fun i q hi hq => by
    rcases List.mem_cons.1 hi with rfl | hi
    · rw [hnone] at hq; cases hq
    · exact hi
  refine ⟨h.glob, ?_, ?_, by simp only [List.map_cons, List.nodup_cons]; exact ⟨hkeys, h.nodup⟩, fun i j q r hi hj hq hr => ?_, h.apart, h.sLt, h.bLt, fun i q hi => Nat.lt_succ_of_lt (h.aLt i q hi), fun i c hm => ?_⟩
  · obtain ⟨Bx, h1, h2, h3, h4⟩ := h.ext
    refine ⟨Bx, h1, h2, fun b hb id cs q hm hq => ?_, fun b hb => ?_⟩
    · rcases List.mem_cons.1 hm with he | hm
      · cases he; rw [hnone] at hq; cases hq
      · exact h3 b hb id cs q hm hq
    · rcases h4 b hb with h5 | ⟨id, cs, q, h5, h6⟩
      · exact .inl h5
      · exact .inr ⟨id, cs, q, List.mem_cons_of_mem _ h5, h6⟩
  · intro id cs hm
    rcases List.mem_cons.1 hm with he | hm
    · cases he; exact .inr ⟨.inl rfl, hnone⟩
    · exact h.blk id cs hm
  · simp only [List.map_cons] at hi hj
    exact h.inj i j q r (hin i q hi hq) (hin j r hj hr) hq hr
  · rcases List.mem_cons.1 hm with he | hm
    · cases he; exact Nat.lt_succ_self _
    · exact Nat.lt_succ_of_lt (h.kLt i c hm)

/-- What may be appended: so many elements, these cells. -/
inductive SrcV (s : Hs) : V → Nat → Nat → List V → Prop
  | vec (es : List I) (m k : Nat) : SrcV s (.i (.vec es m k)) m k (es.map V.i)
  | sl (id off m k : Nat) (cs ws : List V) (hm : s.hp.lookup id = some cs) (hl : off + m * k ≤ cs.length) (hw : (cs.drop off).take (m * k) = ws) : SrcV s (.sl id off m k) m k ws
  | str (l : Str) : SrcV s (.i (.str l)) l.length 1 ((bytesI l).map V.i)
  | nil (k : Nat) : SrcV s (.i (.val (.slice none 0 0))) 0 k []

theorem drop_take_get {α : Type} (cs : List α) (off n i : Nat) (hi : i < n) (hl : off + n ≤ cs.length) : ((cs.drop off).take n)[i]'(by simp; omega) = cs[off + i]'(by omega) := by simp

variable {P : Program} {Γ : Glob} {e : Env} {s : Hs}

theorem SrcV.run {v : V} {x : Value} {m k : Nat} {ws : List V} {α : Nat → Option (Nat × Nat)} {S B : Nat → Prop} {W : World} (h : SrcV s v m k ws) (hh : HRel Γ α S B s W) (hv : VR α S W v x) :
    (∀ W', (Builtin.lenOf x).run P W' = .ok m W') ∧ ws.length = m * k ∧ ∃ news : List Value, news.length = m * k ∧ (∀ W', W'.heap = W.heap → (Builtin.firstCells k m x).run P W' = .ok news.toArray W') ∧
      ∀ i (hi : i < ws.length), VR α S W ws[i] ((news[i]?).getD undef) := by
  have cells : ∀ (b o : Nat) (f : Nat → Value) (n : Nat), (∀ i, i < n → W.cell? ⟨b, o + i, none⟩ = some (f i)) → ∀ W', W'.heap = W.heap → ∀ len cap, n = m * k →
      (Builtin.firstCells k m (.slice (some ⟨b, o, none⟩) len cap)).run P W' = .ok ((List.range n).map f).toArray W' := fun b o f n hc W' hW' len cap hn => by
    simp only [Builtin.firstCells, ← hn]
    exact run_loadCells W' _ n f fun j hj => by rw [addr_add, ← hc j hj]; simp [World.cell?, hW']
  cases h with
  | vec es m k =>
    cases hv with | i _ _ hv => cases hv with
      | nil => exact ⟨fun W' => by simp [Builtin.lenOf], by simp, [], by simp, fun W' _ => by simp [Builtin.firstCells], fun i hi => absurd hi (by simp)⟩
      | emp _ b o cap => exact ⟨fun W' => by simp [Builtin.lenOf], by simp, [], by simp, fun W' _ => by simp [Builtin.firstCells, loadCells, loadCellsFrom], fun i hi => absurd hi (by simp)⟩
      | vec _ _ _ b off cap xs hS hl hc hcell hr =>
        refine ⟨fun W' => by simp [Builtin.lenOf], by simpa using hl, (List.range es.length).map xs, by simpa using hl, fun W' hW' => cells b off xs es.length hcell W' hW' _ _ hl, fun i hi => ?_⟩
        have hi' : i < es.length := by simpa using hi
        simp only [List.getElem_map, List.getElem?_map, List.getElem?_range hi', Option.map_some, Option.getD_some]
        exact .i _ _ (hr i hi')
  | sl id off m k cs ws hm hl hw =>
    subst hw
    have hlen : ((cs.drop off).take (m * k)).length = m * k := by simp; omega
    cases hv with
    | sl _ _ _ _ b base cap NN tt hα hsh hN hc =>
      obtain ⟨xs, t2, k3, k4, k5⟩ := hh.blkAt hm hα
      refine ⟨fun W' => by simp [Builtin.lenOf], hlen, (List.range (m * k)).map fun i => xs.getD (base + off + i) undef, by simp, fun W' hW' => cells b (base + off) _ (m * k) (fun i hi => cell_of_blk k3 (by omega)) W' hW' _ _ rfl, fun i hi => ?_⟩
      have hi' : i < m * k := by omega
      rw [drop_take_get cs off (m * k) i hi' hl]
      simp only [List.getElem?_map, List.getElem?_range hi', Option.map_some, Option.getD_some]
      rw [Nat.add_assoc]
      exact k5 (off + i) (by omega)
    | sl0 _ _ _ b o => exact ⟨fun W' => by simp [Builtin.lenOf], by simp, [], by simp, fun W' _ => by simp [Builtin.firstCells, loadCells, loadCellsFrom], fun i hi => absurd hi (by simp)⟩
    | slnil => exact ⟨fun W' => by simp [Builtin.lenOf], by simp, [], by simp, fun W' _ => by simp [Builtin.firstCells], fun i hi => absurd hi (by simp)⟩
  | str l =>
    have := hv.str_inv
    subst this
    refine ⟨fun W' => by simp [Builtin.lenOf, ba_size], by simp [bytesI], l.map fun c => .int .u8 (c.toNat : Int), by simp, fun W' _ => ?_, fun i hi => ?_⟩
    · have hx : (⟨l.toArray⟩ : ByteArray).extract 0 l.length = ⟨l.toArray⟩ := by rw [ByteArray.extract_mk]; simp
      simp [Builtin.firstCells, hx]
    · have hi' : i < l.length := by simpa [bytesI] using hi
      simp only [bytesI, List.getElem_map, List.getElem?_map, List.getElem?_eq_getElem hi', Option.map_some, Option.getD_some]
      exact .i _ _ (.int _ _)
  | nil k =>
    have := hv.val_inv
    subst this
    exact ⟨fun W' => by simp [Builtin.lenOf], by simp, [], by simp, fun W' _ => by simp [Builtin.firstCells], fun i hi => absurd hi (by simp)⟩

/-- What is asked of the types of an append. -/
def AppT (P : Program) (t u : TypeId) (k bytes : Nat) : Prop :=
  ∃ el i z du, P.underlying t = some (.slice el) ∧ P.info? el = some i ∧ i.size = k ∧ i.bytes = bytes ∧ i.zero = some z ∧ z.cells.size = k ∧ P.underlying u = some du ∧ (du = .string ∨ ∃ e, du = .slice e)

def appB (P : Program) (t u k bytes : Nat) : Bool := match P.underlying t, P.underlying u with
  | some (.slice el), some du => (match du with | .string | .slice _ => true | _ => false) && (match P.info? el with | some i => i.size == k && i.bytes == bytes && (match i.zero with | some z => z.cells.size == k | none => false) | none => false)
  | _, _ => false

theorem AppT.of {t u : TypeId} {k bytes : Nat} (h : appB P t u k bytes = true) : AppT P t u k bytes := by
  unfold appB at h
  split at h
  · rename_i el du hu hd
    simp only [Bool.and_eq_true] at h
    obtain ⟨h1, h2⟩ := h
    split at h2
    · rename_i i hi
      simp only [Bool.and_eq_true, beq_iff_eq] at h2
      obtain ⟨h3, h4⟩ := h2
      split at h4
      · rename_i z hz
        exact ⟨el, i, z, du, hu, hi, h3.1, h3.2, hz, by simpa using h4, hd, by cases du <;> first | exact .inl rfl | exact .inr ⟨_, rfl⟩ | cases h1⟩
      · cases h4
    · cases h2
  · cases h

theorem run_append_fit {t u el ty : TypeId} {i : TypeInfo} {du : TypeDesc} {k m sLen sCap b o : Nat} {x : Value} {news : List Value} {xs : Array Value} {tt : TypeId} {W : World}
    (hu : P.underlying t = some (.slice el)) (hi : P.info? el = some i) (hs : i.size = k) (hd : P.underlying u = some du) (hn : du = .string ∨ ∃ e, du = .slice e) (hlen : (Builtin.lenOf x).run P W = .ok m W)
    (hf : (Builtin.firstCells k m x).run P W = .ok news.toArray W) (hfit : sLen + m ≤ sCap) (hb : W.heap[b]? = some (.cells xs tt (0, 0))) (hl : o + sLen * k + news.length ≤ xs.size) (h1 : ∀ v ∈ news, v.oneCell' = true) :
    (Builtin.append_ #[t, u] ty #[.slice (some ⟨b, o, none⟩) sLen sCap, x]).run P W = .ok (.slice (some ⟨b, o, none⟩) (sLen + m) sCap) (W.setRow b (splice xs.toList (o + sLen * k) news).toArray) := by
  subst hs
  have hst := run_storeCells_at P b (o + sLen * i.size) tt news 0 xs W hb (by simpa using hl) h1
  simp only [Nat.add_zero] at hst
  rcases hn with rfl | ⟨_, rfl⟩ <;> simp [Builtin.append_, run_underlying hu, run_underlying hd, sizeOf, typeInfo, hi, hlen, hfit, hf, addr_add, hst, splice]

theorem run_append_new {t u el ty : TypeId} {i : TypeInfo} {z : Value} {du : TypeDesc} {k bytes m sLen sCap : Nat} {base : Option Addr} {x : Value} {olds news : List Value} {W : World}
    (hu : P.underlying t = some (.slice el)) (hi : P.info? el = some i) (hs : i.size = k) (hby : i.bytes = bytes) (hz : i.zero = some z) (hd : P.underlying u = some du) (hn : du = .string ∨ ∃ e, du = .slice e)
    (hlen : ∀ W', (Builtin.lenOf x).run P W' = .ok m W') (hf : ∀ W', W'.heap = W.heap → (Builtin.firstCells k m x).run P W' = .ok news.toArray W')
    (ho : ∀ W', W'.heap = W.heap → (Builtin.firstCells k sLen (.slice base sLen sCap)).run P W' = .ok olds.toArray W')
    (hfit : sCap < sLen + m) (h63 : sLen + m ≤ 9223372036854775807) (h47 : (sLen + m) * bytes ≤ 140737488355328) :
    ∃ cap rest, sLen + m ≤ cap ∧ (Builtin.append_ #[t, u] ty #[.slice base sLen sCap, x]).run P W = .ok (.slice (some ⟨W.heap.size, 0, none⟩) (sLen + m) cap) (W.drew.alloc (.cells (olds.toArray ++ news.toArray ++ rest) el)) ∧
      rest.size = (cap - (sLen + m)) * z.cells.size := by
  subst hs hby
  refine ⟨grownCap W (sLen + m) sCap el, Builtin.zeroCells z.cells (grownCap W (sLen + m) sCap el - (sLen + m)), grownCap_ge _ _ _ _, ?_, size_zeroCells _ _⟩
  have h1 : ¬ (sLen + m ≤ sCap) := by omega
  have h2 : ¬ (9223372036854775807 < ((sLen : Int) + (m : Int))) := by omega
  have h3 : ¬ (281474976710656 < Builtin.nextslicecap (sLen + m) sCap * i.bytes) := by have := growslice_fits (old := sCap) hfit h47; omega
  have hf' := hf W.drew rfl
  have ho' := ho W.drew rfl
  rcases hn with rfl | ⟨_, rfl⟩ <;> simp [Builtin.append_, run_underlying hu, run_underlying hd, sizeOf, typeInfo, zeroValue, hi, hz, hlen, h1, h2, h3, Question.forced, hf', ho', newRow, grownCap] <;> (congr 2; apply Array.ext'; simp)

section
variable {d : Option Tmp} {ty : TypeId} {pos : String} {af : Array Edge} {g : Option (Nat × Bool)}

theorem run_call_append {a : Act} {x y : Operand} {t u : TypeId} {W : World} {o : Oper} (ho : o.op = .call ⟨.builtin .append, #[x, y], #[t, u]⟩) :
    (execOp a.eval o).run P W = ((Builtin.append_ #[t, u] o.type #[a.eval x, a.eval y]).run P W).andThen fun v w => .ok (.value v) w := by
  simp [execOp, ho, resolve, invoke, builtin]

/-- 'append' to a slice of one's own: the old slice is given up. -/
theorem op_append {x y : Operand} {t u : TypeId} {ts : Array TypeId} {id off len k bytes m : Nat} {cs ws : List V} {v : V} (hts : ts = #[t, u]) (hT : AppT P t u k bytes) (hx : evalE Γ e x = some (.sl id off len k)) (hy : evalE Γ e y = some v)
    (hm : s.hp.lookup id = some cs) (hl : off + len * k ≤ cs.length) (hsrc : SrcV s v m k ws) (hlf : ws.all leafV = true) (h63 : len + m ≤ 9223372036854775807) (h47 : (len + m) * bytes ≤ 140737488355328) :
    LOp P Γ ⟨d, .call ⟨.builtin .append, #[x, y], ts⟩, ty, pos, af, g⟩ e s
      (EqK (.sl s.nx 0 (len + m) k) { s with hp := (s.nx, (cs.drop off).take (len * k) ++ ws) :: delHp s.hp id, nx := s.nx + 1 }) := by
  subst hts
  intro ro mm a W α S B next Q he hh hnext
  refine ⟨about_wide, ?_⟩
  rw [Oper.semAt_eq _ _ _ (fun _ h => by cases h), run_call_append (t := t) (u := u) rfl]
  obtain ⟨el, i, z, du, hu, hi, hs, hby, hz, hzk, hd, hn⟩ := hT
  have hxv := evalE_rel he hh.glob hx
  have hyv := evalE_rel he hh.glob hy
  obtain ⟨hlen, hwl, news, hnl, hfirst, hnews⟩ := hsrc.run hh hyv
  have hone : ∀ u ∈ news, u.oneCell' = true := by
    intro w hw
    obtain ⟨j, hj, rfl⟩ := List.getElem_of_mem hw
    have hj' : j < ws.length := by omega
    have := hnews j hj'
    rw [List.getElem?_eq_getElem hj] at this
    exact leafV_one (List.all_eq_true.1 hlf _ (List.getElem_mem hj')) this
  have hol : ((cs.drop off).take (len * k)).length = len * k := by simp; omega
  have hdrop := hh.drop (delHp s.hp id) (delHp_sub _ _)
  have hFd : Fr S B W S (fun b => B b ∧ ∀ i c q, (i, c) ∈ s.hp → (i, c) ∉ delHp s.hp id → α i = some q → q.1 ≠ b) W :=
    ⟨rfl, rfl, rfl, Nat.le_refl _, fun _ _ _ => rfl, fun _ _ h => h, fun _ h => h, fun b hb => .inl hb.1, fun _ h => .inl h⟩
  have hnews' : ∀ j (hj : j < ws.length), VR α S W ws[j] ((news[j]?).getD undef) := hnews
  -- the cells of the new block, wherever they lie
  have hcells : ∀ (olds : List Value) (rest : Array Value), olds.length = len * k → (∀ j (hj : j < len * k), VR α S W (cs[off + j]'(by omega)) ((olds[j]?).getD undef)) →
      ∀ j (hj : j < ((cs.drop off).take (len * k) ++ ws).length), VR α S W ((cs.drop off).take (len * k) ++ ws)[j] ((olds.toArray ++ news.toArray ++ rest).getD j undef) := by
    intro olds rest hol2 ho j hj
    have hj2 : j < len * k + ws.length := by simpa [hol] using hj
    have hgd : (olds.toArray ++ news.toArray ++ rest).getD j undef = ((olds ++ news)[j]?).getD undef := by
      rw [getD_toList]
      simp only [Array.toList_append]
      rw [List.getElem?_append_left (by simp; omega)]
    rw [hgd]
    by_cases hc : j < len * k
    · rw [List.getElem_append_left (by omega), List.getElem?_append_left (by omega)]
      have := ho j hc
      simpa using this
    · rw [List.getElem_append_right (by omega), List.getElem?_append_right (by omega)]
      have := hnews' (j - len * k) (by omega)
      simpa only [hol, hol2] using this
  have grow : ∀ (base : Option Addr) (sCap : Nat) (olds : List Value), a.eval x = .slice base len sCap → olds.length = len * k → (∀ j (hj : j < len * k), VR α S W (cs[off + j]'(by omega)) ((olds[j]?).getD undef)) →
      (∀ W', W'.heap = W.heap → (Builtin.firstCells k len (.slice base len sCap)).run P W' = .ok olds.toArray W') → sCap < len + m →
      Oper.uponIn (Fe ro) mm P ⟨d, .call ⟨.builtin .append, #[x, y], #[t, u]⟩, ty, pos, af, g⟩ a next Q (((Builtin.append_ #[t, u] ty #[a.eval x, a.eval y]).run P W).andThen fun v w => .ok (.value v) w) := by
    intro base sCap olds hax hol2 ho hof hfit
    obtain ⟨cap, rest, hcap, hrun, hrest⟩ := run_append_new (ty := ty) hu hi hs hby hz hd hn hlen hfirst hof hfit h63 h47
    rw [hax, hrun]
    simp only [Result.andThen_ok, Oper.uponIn_value]
    have hA := hdrop.drew.alloc (cs := (cs.drop off).take (len * k) ++ ws) (xs := olds.toArray ++ news.toArray ++ rest) (ty := el) (by simp [hol2, hnl]; omega) (fun j hj => @VR.mono α α S S W W.drew (Al.refl α) (fun _ h => h) ⟨fun _ _ => rfl, fun _ _ h => h⟩ _ _ (hcells olds rest hol2 ho j hj))
    refine hnext _ _ _ _ S _ _ ⟨rfl, rfl⟩ ?_ hA.1 ((hFd.trans (Fr.drew S _ W)).trans hA.2.1) hA.2.2
    have hsh := heap_alloc_new W.drew (.cells (olds.toArray ++ news.toArray ++ rest) el)
    refine .sl _ 0 (len + m) k W.heap.size 0 cap ((olds.toArray ++ news.toArray ++ rest).size) el (upd_same α s.nx W.heap.size 0) ?_ ?_ hcap
    · simp only [World.shape?]
      have : (W.drew.alloc (.cells (olds.toArray ++ news.toArray ++ rest) el)).heap[W.heap.size]? = some (.cells (olds.toArray ++ news.toArray ++ rest) el) := hsh
      rw [this]
    · simp only [Array.size_append, List.size_toArray, hol2, hnl, hrest, hzk]
      have hd1 : len * k + m * k + (cap - (len + m)) * k = cap * k := by rw [← Nat.add_mul, ← Nat.add_mul]; congr 1; omega
      omega
  generalize hax : a.eval x = xv at hxv
  rw [hax] at grow
  cases hxv with
  | slnil =>
    by_cases hm0 : m = 0
    · subst hm0
      have hn0 : news = [] := List.eq_nil_of_length_eq_zero (by simpa using hnl)
      have hw0 : ws = [] := List.eq_nil_of_length_eq_zero (by simpa using hwl)
      subst hn0 hw0
      have hrun : (Builtin.append_ #[t, u] ty #[.slice none 0 0, a.eval y]).run P W = .ok (.slice none 0 0) W := by
        have hf0 := hfirst W rfl
        have hl0 := hlen W
        subst hs
        rcases hn with rfl | ⟨_, rfl⟩ <;> simp [Builtin.append_, run_underlying hu, run_underlying hd, sizeOf, typeInfo, hi, hl0, hf0]
      rw [hrun]
      simp only [Result.andThen_ok, Oper.uponIn_value]
      have := hdrop.nameNone
      refine hnext _ _ _ α S _ W ⟨rfl, rfl⟩ (.slnil _ _ _) (by simpa using this) hFd (Al.refl α)
    · exact grow none 0 [] rfl (by simp) (fun j hj => absurd hj (by simp)) (fun W' _ => by simp [Builtin.firstCells]) (by omega)
  | sl0 _ _ _ b o =>
    by_cases hm0 : m = 0
    · subst hm0
      have hn0 : news = [] := List.eq_nil_of_length_eq_zero (by simpa using hnl)
      have hw0 : ws = [] := List.eq_nil_of_length_eq_zero (by simpa using hwl)
      subst hn0 hw0
      have hrun : (Builtin.append_ #[t, u] ty #[.slice (some ⟨b, o, none⟩) 0 0, a.eval y]).run P W = .ok (.slice (some ⟨b, o, none⟩) 0 0) W := by
        have hf0 := hfirst W rfl
        have hl0 := hlen W
        subst hs
        rcases hn with rfl | ⟨_, rfl⟩ <;> simp [Builtin.append_, run_underlying hu, run_underlying hd, sizeOf, typeInfo, hi, hl0, hf0, storeCells]
      rw [hrun]
      simp only [Result.andThen_ok, Oper.uponIn_value]
      have := hdrop.nameNone
      refine hnext _ _ _ α S _ W ⟨rfl, rfl⟩ (.sl0 _ _ _ b o) (by simpa using this) hFd (Al.refl α)
    · exact grow (some ⟨b, o, none⟩) 0 [] rfl (by simp) (fun j hj => absurd hj (by simp)) (fun W' _ => by simp [Builtin.firstCells, loadCells, loadCellsFrom]) (by omega)
  | sl _ _ _ _ b base sCap NN tt hα hsh hN hc =>
    obtain ⟨xs, t2, k3, k4, k5⟩ := hh.blkAt hm hα
    have hxs : NN = xs.size := by simp only [World.shape?, k3, Option.some.injEq, Prod.mk.injEq] at hsh; exact hsh.2.symm
    subst hxs
    by_cases hfit : len + m ≤ sCap
    · have hmul : len * k + m * k ≤ sCap * k := by rw [← Nat.add_mul]; exact Nat.mul_le_mul_right _ hfit
      have hroom : base + off + len * k + news.length ≤ xs.size := by omega
      rw [run_append_fit (ty := ty) hu hi hs hd hn (hlen W) (hfirst W rfl) hfit k3 hroom hone]
      simp only [Result.andThen_ok, Oper.uponIn_value]
      have hBb : B b := by
        rcases hh.blk id cs (mem_of_lookup hm) with ⟨b', base', h1, h2, _⟩ | ⟨_, h0⟩
        · rw [hα] at h1; cases h1; exact h2
        · rw [hα] at h0; cases h0
      have hSb : ¬ S b := fun h => hh.apart b h hBb
      have hnB := HRel.dropped (B := B) (mem_of_lookup hm) hα
      have hys : (splice xs.toList (base + off + len * k) news).toArray.size = xs.size := by
        rw [List.size_toArray, splice_length _ _ _ (by simpa using hroom)]; simp
      have hpk := hdrop.poke (ys := (splice xs.toList (base + off + len * k) news).toArray) k3 hys hSb hnB
      have hkeep : Keeps S W (W.setRow b (splice xs.toList (base + off + len * k) news).toArray) := keeps_setRow k3 hys hSb
      have hlt := hh.bLt b hBb
      have hname := hpk.name (cs := (cs.drop off).take (len * k) ++ ws) (b := b) (base := base + off)
        ⟨_, t2, setRow_heap W b xs _ t2 _ k3, by rw [hys]; simp only [List.length_append, hol, hwl]; omega, fun j hj => by
          have hj2 : j < len * k + ws.length := by simpa [hol] using hj
          refine VR.mono (Al.refl α) (fun _ h => h) hkeep (?_ : VR α S W _ _)
          rw [getD_toArray, splice_get _ _ _ (by simpa using hroom)]
          by_cases hcc : j < len * k
          · rw [List.getElem_append_left (by omega), if_neg (by omega), drop_take_get cs off (len * k) j hcc hl]
            have := k5 (off + j) (by omega)
            rw [getD_toList] at this
            rw [Nat.add_assoc]; exact this
          · rw [List.getElem_append_right (by omega), if_pos (by omega)]
            have := hnews' (j - len * k) (by omega)
            have e1 : base + off + j - (base + off + len * k) = j - len * k := by omega
            rw [e1]
            simpa only [hol] using this⟩
        hSb (by simpa using hlt) (fun i c q hi hq hqb => by
          have hi' := mem_delHp.1 hi
          exact hi'.2 (hh.inj i id q _ (key_of_mem hi'.1) (key_of_mem (mem_of_lookup hm)) hq hα hqb)) hnB
      refine hnext _ _ _ _ S _ _ ⟨rfl, rfl⟩ ?_ hname ⟨rfl, rfl, rfl, by simp, fun c _ hcB => setRow_other W b c _ (fun e => hcB (e ▸ hBb)), fun c sh hcs => shape_setRow k3 hys c sh hcs, fun _ h => h, fun c hcB => ?_, fun _ h => .inl h⟩ (hh.al_upd b (base + off))
      · have hs2 : (W.setRow b (splice xs.toList (base + off + len * k) news).toArray).shape? b = some (t2, xs.size) := by
          simp only [World.shape?, setRow_heap W b xs _ t2 _ k3, hys]
        exact .sl _ 0 (len + m) k b (base + off) sCap xs.size t2 (upd_same α s.nx b (base + off)) hs2 (by omega) hfit
      · rcases hcB with hcB | rfl
        · exact .inl hcB.1
        · exact .inl hBb
    · refine grow (some ⟨b, base + off, none⟩) sCap ((List.range (len * k)).map fun i => xs.getD (base + off + i) undef) rfl (by simp) (fun j hj => ?_) (fun W' hW' => ?_) (by omega)
      · simp only [List.getElem?_map, List.getElem?_range hj, Option.map_some, Option.getD_some]
        rw [Nat.add_assoc]; exact k5 (off + j) (by omega)
      · simp only [Builtin.firstCells]
        refine run_loadCells W' _ (len * k) _ fun j hj => ?_
        rw [addr_add, ← cell_of_blk k3 (by omega : base + off + j < xs.size)]
        simp [World.cell?, hW']

end
end Go.Ab
