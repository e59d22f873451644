/-
  The layer Ab, part 15: what the printed walks need: guards of a reckoning, lists as cells, and where ways meet.
-/
import Derived.Test.YtnfdggpfidngkaaGreatDoorAbRet
import Derived.Test.YtnfdggpfidngkaaGreatDoorAbDs
namespace Go.Ab

/-! Guards of a reckoning. -/

def lt {α β : Type} (x : α) (f : α → Option β) : Option β := f x
theorem lt_some {α β : Type} {x : α} {f : α → Option β} {r : β} (h : lt x f = some r) : ∃ y, x = y ∧ f y = some r := ⟨x, rfl, h⟩
def gd {β : Type} (b : Bool) (x : Option β) : Option β := bif b then x else none
theorem gd_some {β : Type} {b : Bool} {x : Option β} {r : β} (h : gd b x = some r) : b = true ∧ x = some r := by
  cases b
  · cases h
  · exact ⟨rfl, h⟩
theorem bind_some {α β : Type} {x : Option α} {f : α → Option β} {r : β} (h : x.bind f = some r) : ∃ y, x = some y ∧ f y = some r := by
  cases x with
  | none => cases h
  | some y => exact ⟨y, rfl, h⟩
theorem bif_t {β : Type} {b : Bool} {x y r : β} (hb : b = true) (h : (bif b then x else y) = r) : x = r := by subst hb; exact h
theorem bif_f {β : Type} {b : Bool} {x y r : β} (hb : b = false) (h : (bif b then x else y) = r) : y = r := by subst hb; exact h

def ix {α : Type} (l : List α) (i : Int) : Option α := bif decide (0 ≤ i) then l[i.toNat]? else none
theorem ix_some {α : Type} {l : List α} {i : Int} {y : α} (h : ix l i = some y) : i = (i.toNat : Int) ∧ l[i.toNat]? = some y ∧ i.toNat < l.length := by
  unfold ix at h
  by_cases h0 : 0 ≤ i
  · simp only [h0, decide_true, cond_true] at h
    exact ⟨by omega, h, (List.getElem?_eq_some_iff.1 h).1⟩
  · simp only [h0, decide_false, cond_false] at h; cases h

def sub {α : Type} (l : List α) (a b : Int) : Option (List α) := bif decide (0 ≤ a ∧ a ≤ b ∧ b ≤ l.length) then some ((l.drop a.toNat).take (b.toNat - a.toNat)) else none
theorem sub_some {α : Type} {l : List α} {a b : Int} {r : List α} (h : sub l a b = some r) :
    a = (a.toNat : Int) ∧ b = (b.toNat : Int) ∧ a.toNat ≤ b.toNat ∧ b.toNat ≤ l.length ∧ (l.drop a.toNat).take (b.toNat - a.toNat) = r ∧ r.length = b.toNat - a.toNat := by
  unfold sub at h
  by_cases h0 : 0 ≤ a ∧ a ≤ b ∧ b ≤ l.length
  · simp only [h0, and_self, decide_true, cond_true, Option.some.injEq] at h
    subst h
    refine ⟨by omega, by omega, by omega, by omega, rfl, ?_⟩
    simp; omega
  · simp only [h0, decide_false, cond_false] at h; cases h

/-! Lists as cells. -/

structure En (α : Type) where
  f : α → List I
  k : Nat
  hk : ∀ x, (f x).length = k
  hl : ∀ x, ((f x).map V.i).all leafV = true

abbrev En.es {α : Type} (en : En α) (l : List α) : List I := l.flatMap en.f
abbrev En.vec {α : Type} (en : En α) (l : List α) : V := .i (.vec (l.flatMap en.f) l.length en.k)
abbrev En.cs {α : Type} (en : En α) (l : List α) : List V := (l.flatMap en.f).map V.i

section
variable {α : Type} (en : En α)

theorem En.len (l : List α) : (l.flatMap en.f).length = l.length * en.k := by
  induction l with
  | nil => simp
  | cons x l ih => simp [en.hk, ih, Nat.succ_mul, Nat.add_comm]

theorem En.drop (l : List α) (n : Nat) : (l.flatMap en.f).drop (n * en.k) = (l.drop n).flatMap en.f := by
  induction l generalizing n with
  | nil => simp
  | cons x l ih =>
    cases n with
    | zero => simp
    | succ n =>
      rw [List.flatMap_cons, List.drop_append, List.drop_succ_cons]
      have h1 : (n + 1) * en.k = en.k + n * en.k := by rw [Nat.succ_mul, Nat.add_comm]
      have h2 : List.drop ((n + 1) * en.k) (en.f x) = [] := by rw [List.drop_eq_nil_iff]; rw [en.hk, h1]; omega
      rw [h2, en.hk, h1, Nat.add_sub_cancel_left, ih, List.nil_append]

theorem En.take (l : List α) (n : Nat) : (l.flatMap en.f).take (n * en.k) = (l.take n).flatMap en.f := by
  induction l generalizing n with
  | nil => simp
  | cons x l ih =>
    cases n with
    | zero => simp
    | succ n =>
      rw [List.flatMap_cons, List.take_append, List.take_succ_cons, List.flatMap_cons]
      have h1 : (n + 1) * en.k = en.k + n * en.k := by rw [Nat.succ_mul, Nat.add_comm]
      have h2 : List.take ((n + 1) * en.k) (en.f x) = en.f x := by apply List.take_of_length_le; rw [en.hk, h1]; omega
      rw [h2, en.hk, h1, Nat.add_sub_cancel_left, ih]

/-- An element's cells. -/
theorem En.at {l : List α} {j off : Nat} {y : α} (h : l[j]? = some y) (ho : off = j * en.k) : ((l.flatMap en.f).drop off).take en.k = en.f y := by
  subst ho
  rw [En.drop]
  have h1 : l.drop j = y :: l.drop (j + 1) := by
    obtain ⟨hj, hy⟩ := List.getElem?_eq_some_iff.1 h
    rw [List.drop_eq_getElem_cons hj, hy]
  rw [h1, List.flatMap_cons, List.take_append, en.hk, Nat.sub_self, List.take_zero, List.append_nil, List.take_of_length_le (by rw [en.hk]; exact Nat.le_refl _)]

theorem En.atV {l : List α} {j off n : Nat} {y : α} {vs : List V} (h : l[j]? = some y) (ho : off = j * en.k) (hn : n = en.k) (hv : (en.f y).map V.i = vs) : (((l.flatMap en.f).drop off).take n).map V.i = vs := by
  subst hn; rw [En.at en h ho, hv]

theorem En.atLe {l : List α} {j off n : Nat} (h : j < l.length) (ho : off = j * en.k) (hn : n = en.k) : off + n ≤ (l.flatMap en.f).length := by
  subst ho hn
  rw [En.len]
  calc j * en.k + en.k = (j + 1) * en.k := by rw [Nat.succ_mul]
    _ ≤ l.length * en.k := Nat.mul_le_mul_right _ h

/-- One cell of an element. -/
theorem En.cell {l : List α} {j f off : Nat} {y : α} {v : I} (h : l[j]? = some y) (ho : off = j * en.k + f) (hv : (en.f y)[f]? = some v) : (l.flatMap en.f)[off]? = some v := by
  have hf : f < en.k := by rw [← en.hk y]; exact (List.getElem?_eq_some_iff.1 hv).1
  have := En.at en h rfl
  have h2 : ((((l.flatMap en.f).drop (j * en.k)).take en.k))[f]? = some v := by rw [this, hv]
  rw [List.getElem?_take_of_lt hf, List.getElem?_drop] at h2
  rw [ho]; exact h2

theorem En.cellV {l : List α} {j f off : Nat} {y : α} {v : I} (h : l[j]? = some y) (ho : off = j * en.k + f) (hv : (en.f y)[f]? = some v) : ((l.flatMap en.f).map V.i)[off]? = some (.i v) := by
  rw [List.getElem?_map, En.cell en h ho hv]; rfl

theorem En.csLen (l : List α) : ((l.flatMap en.f).map V.i).length = l.length * en.k := by rw [List.length_map, En.len]

theorem En.subE {l r : List α} {a b : Nat} (h : (l.drop a).take (b - a) = r) : ((l.flatMap en.f).drop (a * en.k)).take ((b - a) * en.k) = r.flatMap en.f := by
  rw [En.drop, En.take, h]

theorem En.app {l m : List α} {ws : List V} {n off : Nat} (hw : ws = (m.flatMap en.f).map V.i) (hn : n = l.length * en.k) (ho : off = 0) :
    ((((l.flatMap en.f).map V.i).drop off).take n) ++ ws = ((l ++ m).flatMap en.f).map V.i := by
  subst hw hn ho
  rw [List.drop_zero, List.take_of_length_le (by rw [En.csLen]; exact Nat.le_refl _), List.flatMap_append, List.map_append]
end

section
variable {α : Type} (en : En α)

theorem En.partLe {l : List α} {j f off n : Nat} (h : j < l.length) (ho : off = j * en.k + f) (hn : f + n ≤ en.k) : off + n ≤ (l.flatMap en.f).length := by
  have := En.atLe en h rfl rfl; omega

theorem En.partV {l : List α} {j f off n : Nat} {y : α} {vs : List V} (h : l[j]? = some y) (ho : off = j * en.k + f) (hn : f + n ≤ en.k) (hv : (((en.f y).drop f).take n).map V.i = vs) :
    (((l.flatMap en.f).drop off).take n).map V.i = vs := by
  subst ho hv
  rw [← En.at en h rfl, ← List.drop_drop, List.drop_take, List.take_take, Nat.min_eq_left (by omega)]

theorem En.sealLe (l : List α) : 0 + l.length * en.k ≤ ((l.flatMap en.f).map V.i).length := by rw [En.csLen, Nat.zero_add]; exact Nat.le_refl _
theorem En.sealEq (l : List α) : (((l.flatMap en.f).map V.i).drop 0).take (l.length * en.k) = (l.flatMap en.f).map V.i := by
  rw [List.drop_zero, List.take_of_length_le (by rw [En.csLen]; exact Nat.le_refl _)]
theorem En.leaf (l : List α) : ((l.flatMap en.f).map V.i).all leafV = true := by
  induction l with
  | nil => rfl
  | cons x l ih => rw [List.flatMap_cons, List.map_append, List.all_append, en.hl, ih]; rfl
end

theorem ne0 {x : Int} (h : (!decide (x = 0)) = true) : x ≠ 0 := by simpa using h

section
variable {P : Program} {Γ : Glob} {e : Env} {s : Hs} {d : Option Tmp} {ty : TypeId} {pos : String} {af : Array Edge} {g : Option (Nat × Bool)}

theorem op_pick_true' {c x y : Operand} {v : V} {b : Bool} (hc : evalE Γ e c = some (.i (.bool b))) (hb : b = true) (hx : evalE Γ e x = some v) : LOp P Γ ⟨d, .pick c x y, ty, pos, af, g⟩ e s (EqK v s) := by
  subst hb; exact op_pick_true hc hx
theorem op_pick_false' {c x y : Operand} {v : V} {b : Bool} (hc : evalE Γ e c = some (.i (.bool b))) (hb : b = false) (hx : evalE Γ e y = some v) : LOp P Γ ⟨d, .pick c x y, ty, pos, af, g⟩ e s (EqK v s) := by
  subst hb; exact op_pick_false hc hx

def bytesN (l : Str) : List Int := l.map fun c => (c.toNat : Int)
theorem bytesN_I (l : Str) : (bytesN l).flatMap (fun c => [I.int .u8 c]) = bytesI l := by
  induction l with
  | nil => rfl
  | cons c l ih => simp only [bytesN, bytesI, List.map_cons, List.flatMap_cons] at ih ⊢; rw [ih]; rfl
theorem op_conv_bytesN {st dt el : TypeId} {x : Operand} {l : Str} {u : TypeDesc} {r : List Int} (hs : P.underlying st = some u) (hd : P.underlying dt = some (.slice el)) (he8 : P.underlying el = some (.int .u8))
    (hx : evalE Γ e x = some (.i (.str l))) (hr : bytesN l = r) : LOp P Γ ⟨d, .convert st dt x, ty, pos, af, g⟩ e s (EqK (.i (.vec (r.flatMap fun c => [I.int .u8 c]) r.length 1)) s) := by
  subst hr
  have h := op_conv_bytes (P := P) (Γ := Γ) (e := e) (s := s) (d := d) (ty := ty) (pos := pos) (af := af) (g := g) hs hd he8 hx
  rw [bytesN_I]
  have hl : (bytesN l).length = l.length := by simp [bytesN]
  rw [hl]; exact h

theorem op_slice_vecE {α : Type} (en : En α) {t : TypeId} {x : Operand} {lo hi : Option Operand} {l r : List α} {a b : Int} (ht : SliceT P t en.k) (hx : evalE Γ e x = some (en.vec l))
    (hlo : Bd Γ e lo 0 a.toNat) (hhi : Bd Γ e hi l.length b.toNat)
    (h : a = (a.toNat : Int) ∧ b = (b.toNat : Int) ∧ a.toNat ≤ b.toNat ∧ b.toNat ≤ l.length ∧ (l.drop a.toNat).take (b.toNat - a.toNat) = r ∧ r.length = b.toNat - a.toNat) :
    LOp P Γ ⟨d, .slice t x lo hi none, ty, pos, af, g⟩ e s (EqK (en.vec r) s) := by
  have := op_slice_vec (P := P) (s := s) (d := d) (ty := ty) (pos := pos) (af := af) (g := g) ht hx hlo hhi h.2.2.1 h.2.2.2.1 (En.subE en h.2.2.2.2.1)
  rw [← h.2.2.2.2.2] at this; exact this

theorem op_appendE {α : Type} (en : En α) {l r : List α} {x y : Operand} {t u : TypeId} {ts : Array TypeId} {id off len bytes : Nat} {cs ws : List V} {v : V} (hts : ts = #[t, u]) (hT : AppT P t u en.k bytes)
    (hx : evalE Γ e x = some (.sl id off len en.k)) (hy : evalE Γ e y = some v) (hm : s.hp.lookup id = some cs) (hcs : (cs.drop off).take (len * en.k) = (l.flatMap en.f).map V.i) (hle : off + len * en.k ≤ cs.length)
    (hn : len = l.length) (hsrc : SrcV s v r.length en.k ws) (hw : ws = (r.flatMap en.f).map V.i) (hg : Nat.ble ((l.length + r.length) * (max bytes 1)) 140737488355328 = true) :
    LOp P Γ ⟨d, .call ⟨.builtin .append, #[x, y], ts⟩, ty, pos, af, g⟩ e s
      (EqK (.sl s.nx 0 (l ++ r).length en.k) { s with hp := (s.nx, ((l ++ r).flatMap en.f).map V.i) :: delHp s.hp id, nx := s.nx + 1 }) := by
  have hg' : (l.length + r.length) * (max bytes 1) ≤ 140737488355328 := Nat.le_of_ble_eq_true hg
  have h1 : (l.length + r.length) * bytes ≤ (l.length + r.length) * (max bytes 1) := Nat.mul_le_mul_left _ (Nat.le_max_left _ _)
  have h2 : (l.length + r.length) * 1 ≤ (l.length + r.length) * (max bytes 1) := Nat.mul_le_mul_left _ (Nat.le_max_right _ _)
  subst hn
  have := op_append (P := P) (Γ := Γ) (e := e) (s := s) (d := d) (ty := ty) (pos := pos) (af := af) (g := g) hts hT hx hy hm hle hsrc (by rw [hw]; exact En.leaf en r) (by omega) (by omega)
  rw [hcs, hw, ← List.map_append, ← List.flatMap_append, ← List.length_append] at this
  exact this
end

/-! Where ways meet. -/

section
variable {P : Program} {Γ : Glob} {ro : Option Nat} {N : Nat} {D : List Deferred} {pin : Nat} {Q : Exit → St → Prop} {st : St}

theorem AWp.seqJ {x y : Code} {A : Type} (M : A → St) (g : A → Prop) (hy : ∀ a, g a → AWp P Γ ro N D pin y Q (M a))
    (hx : AWp P Γ ro N D pin x (Exit.thenA (fun st' => ∃ a, g a ∧ Gh Γ N D pin st' (M a)) Q) st) : AWp P Γ ro N D pin (.seq x y) Q st := by
  refine AWp.seq (hx.mono fun e st' h => ?_)
  cases e with
  | normal => obtain ⟨a, ha, hg⟩ := h; exact AWp.ghost hg (hy a ha)
  | _ => exact h

theorem AWp.loopJ {c : Code} {A : Type} (M : A → St) (g : Nat → A → Prop) (n : Nat) (a : A) (hg : g n a) (h0 : Gh Γ N D pin st (M a)) (g0 : ∀ a, ¬ g 0 a)
    (h : ∀ m a, g (m + 1) a → AWp P Γ ro N D pin c (Exit.thenA (fun st' => ∃ a', g m a' ∧ Gh Γ N D pin st' (M a')) Q) (M a)) : AWp P Γ ro N D pin (.loop c) Q st := by
  refine AWp.loopG (ι := { p : Nat × A // g p.1 p.2 }) (fun i => M i.1.2) (fun i => i.1.1) ⟨(n, a), hg⟩ h0 fun i => ?_
  obtain ⟨⟨m, a⟩, hm⟩ := i
  cases m with
  | zero => exact absurd hm (g0 a)
  | succ m =>
    refine (h m a hm).mono fun e st' hq => ?_
    cases e with
    | normal => obtain ⟨a', h1, h2⟩ := hq; exact ⟨⟨(m, a'), h1⟩, h2, Nat.lt_succ_self m⟩
    | _ => exact hq

theorem AWp.condT {c : Operand} {x y : Code} {b : Bool} (hc : evalE Γ st.e c = some (.i (.bool b))) (hb : b = true) (h : AWp P Γ ro N D pin x Q st) : AWp P Γ ro N D pin (.cond c x y) Q st :=
  AWp.cond hc (fun _ => h) (fun h2 => by rw [hb] at h2; cases h2)
theorem AWp.condF {c : Operand} {x y : Code} {b : Bool} (hc : evalE Γ st.e c = some (.i (.bool b))) (hb : b = false) (h : AWp P Γ ro N D pin y Q st) : AWp P Γ ro N D pin (.cond c x y) Q st :=
  AWp.cond hc (fun h2 => by rw [hb] at h2; cases h2) (fun _ => h)

theorem AOps.eqT' {ops : Array Oper} {o : Oper} {rest : List Oper} {v : V} {s' : Hs} {j dj : Nat} {w b : Bool} (ho : LOp P Γ o st.e st.s (EqK v s')) (hg : o.guard = some (j, w)) (hj : (ops[j]?).bind (·.dst) = some dj)
    (hb : st.e.lookup dj = some (.i (.bool b))) (hw : b = w) (hn : Nat.blt dj N = true) (hd : dOk o.dst N = true)
    (h : AOps P Γ ro N D pin ops rest Q ⟨putE o.dst v st.e, s'⟩) : AOps P Γ ro N D pin ops (o :: rest) Q st := by
  subst hw; exact AOps.eqT ho hg hj hb hn hd h

def isI : V → Bool
  | .i _ => true
  | _ => false
theorem RenL.ofI {ρ : Nat → Nat} {n : Nat} : ∀ {cs : List V}, cs.all isI = true → RenL ρ n cs cs
  | [], _ => RenL.nil ρ n
  | v :: cs, h => by
    simp only [List.all_cons, Bool.and_eq_true] at h
    refine RenL.cons ?_ (RenL.ofI h.2)
    cases v with
    | i x => exact .i x
    | _ => cases h.1
theorem Ren.aggI {ρ : Nat → Nat} {n : Nat} {cs : List V} (h : cs.all isI = true) : Ren ρ n (.agg cs) (.agg cs) := Ren.aggL (RenL.ofI h)
theorem NoId.aggI {cs : List V} (h : cs.all isI = true) : NoId (.agg cs) := NoId.agg fun c hc => by
  have := List.all_eq_true.1 h c hc
  cases c with
  | i x => exact .i x
  | _ => cases this

/-! Names under a list. -/

def rho (l : List Nat) : Nat → Nat := fun i => (l[i]?).getD i
def nodupB : List Nat → Bool
  | [] => true
  | i :: l => !(l.any fun j => Nat.beq i j) && nodupB l
theorem nodupB_iff : ∀ {l : List Nat}, nodupB l = true → l.Nodup
  | [], _ => List.nodup_nil
  | i :: l, h => by
    simp only [nodupB, Bool.and_eq_true, Bool.not_eq_true', List.any_eq_false, Nat.beq_eq] at h
    exact List.nodup_cons.2 ⟨fun hm => h.1 i hm rfl, nodupB_iff h.2⟩
def okRe (l : List Nat) (pin nx' : Nat) (ks : List Nat) : Bool :=
  nodupB ks && ((List.range pin).all fun i => Nat.beq (rho l i) i && Nat.blt i nx') && ks.all fun i => ks.all fun j => !(Nat.beq (rho l i) (rho l j)) || Nat.beq i j

theorem Gh.by (l : List Nat) {e' : Env} {hp' : Hp} {nx' : Nat} (hok : okRe l pin nx' (hp'.map (·.1)) = true) (he : KeepR (rho l) nx' st.e e') (hh : HpR (rho l) nx' st.s.hp hp') :
    Gh Γ N D pin st ⟨e', ⟨hp', nx', st.s.ex⟩⟩ := by
  simp only [okRe, Bool.and_eq_true, List.all_eq_true, List.mem_range, Nat.beq_eq, Nat.blt_eq, Bool.or_eq_true, Bool.not_eq_true'] at hok
  refine Gh.re (rho l) (fun i hi => hok.1.2 i hi) (fun i j hi hj h => ?_) (nodupB_iff hok.1.1) he hh
  rcases hok.2 i hi j hj with h1 | h1
  · rw [h] at h1
    have : Nat.beq (rho l j) (rho l j) = true := by simp
    rw [this] at h1; cases h1
  · exact h1

theorem Ren.pB {l : List Nat} {n id id' off : Nat} (h : (Nat.blt id n && Nat.beq (rho l id) id') = true) : Ren (rho l) n (.p id off) (.p id' off) := by
  simp only [Bool.and_eq_true, Nat.blt_eq, Nat.beq_eq] at h
  exact Ren.peq h.1 h.2
theorem Ren.slB {l : List Nat} {n id id' off len len' k : Nat} (h : (Nat.blt id n && Nat.beq (rho l id) id') = true) (hl : len = len') : Ren (rho l) n (.sl id off len k) (.sl id' off len' k) := by
  simp only [Bool.and_eq_true, Nat.blt_eq, Nat.beq_eq] at h
  exact Ren.sleq h.1 h.2 rfl hl

/-- Less is known. -/
def Weak (v v' : V) : Prop := ∀ α S W x, VR α S W v x → VR α S W v' x
theorem Weak.refl (v : V) : Weak v v := fun _ _ _ _ h => h
theorem Weak.nil (k : Nat) : Weak (.i (.val (.slice none 0 0))) (.i (.vec [] 0 k)) := fun α S W x h => by
  have := VR.val_inv h; subst this; exact .i _ _ (.nil k)
theorem Weak.list {vs ws : List V} (hl : vs.length = ws.length) (h : ∀ i (h1 : i < vs.length) (h2 : i < ws.length), Weak vs[i] ws[i]) {α : Nat → Option (Nat × Nat)} {S : Nat → Prop} {W : World} {xs : Array Value}
    (hr : ∀ i (h : i < vs.length), VR α S W vs[i] (xs.getD i undef)) : ∀ i (h : i < ws.length), VR α S W ws[i] (xs.getD i undef) := fun i hi => h i (by omega) hi α S W _ (hr i (by omega))
inductive WeakL : List V → List V → Prop
  | nil : WeakL [] []
  | cons {v w : V} {vs ws : List V} (h : Weak v w) (hs : WeakL vs ws) : WeakL (v :: vs) (w :: ws)
theorem WeakL.spec {vs ws : List V} (h : WeakL vs ws) : vs.length = ws.length ∧ ∀ i (h1 : i < vs.length) (h2 : i < ws.length), Weak vs[i] ws[i] := by
  induction h with
  | nil => exact ⟨rfl, fun i h => absurd h (Nat.not_lt_zero i)⟩
  | cons h _ ih => exact ⟨by simp [ih.1], fun i h1 h2 => by
      cases i with
      | zero => exact h
      | succ i => exact ih.2 i (by simpa using h1) (by simpa using h2)⟩
theorem WeakL.refl : ∀ vs : List V, WeakL vs vs
  | [] => .nil
  | v :: vs => .cons (Weak.refl v) (WeakL.refl vs)
theorem Weak.agg {vs ws : List V} (h : WeakL vs ws) : Weak (.agg vs) (.agg ws) := fun α S W x hx => by
  cases hx with
  | agg _ xs hl hr => exact .agg _ xs (by rw [hl, h.spec.1]) (Weak.list h.spec.1 h.spec.2 hr)
theorem Weak.tup {vs ws : List V} (h : WeakL vs ws) : Weak (.tup vs) (.tup ws) := fun α S W x hx => by
  cases hx with
  | tup _ xs hl hr => exact .tup _ xs (by rw [hl, h.spec.1]) (Weak.list h.spec.1 h.spec.2 hr)
theorem RetV.weak {fn : Func} {v w : V} (h : RetV P Γ N D fn st v) (hw : Weak v w) : RetV P Γ N D fn st w := fun α S B a W hs => by
  obtain ⟨x, h1, h2⟩ := h α S B a W hs
  exact ⟨x, h1, hw α S W x h2⟩
theorem CallOK.weak {f : FuncId} {args args' : List V} {s : Hs} {K : V → Hs → Prop} (h : WeakL args args') (hc : CallOK P Γ f args' s K) : CallOK P Γ f args s K := fun α S B W xs hxs hh =>
  hc α S B W xs ⟨by rw [hxs.1, h.spec.1], Weak.list h.spec.1 h.spec.2 hxs.2⟩ hh
/-- Temporaries of which less is known. -/
theorem Gh.weak {t : Nat} {v w : V} (hl : st.e.lookup t = some v) (h : Weak v w) : Gh Γ N D pin st ⟨(t, w) :: st.e, st.s⟩ := fun α S B a W hs =>
  ⟨α, S, B, ⟨hs.size, hs.defers, fun t' v' hv => by
    by_cases ht : t' = t
    · subst ht; simp at hv; subst hv; exact h α S W _ (hs.env _ _ hl)
    · have hb : (t' == t) = false := by simp [ht]
      simp only [List.lookup_cons, hb] at hv
      exact hs.env t' v' hv, hs.hp⟩, Fr.refl S B W, Pin.refl pin α⟩

theorem FnQ.retP {fn : Func} {r v : V} {st' : St} (hg : Gh Γ N [] pin st st') (hr : RetV P Γ N [] fn st' v) (hk : v = r) : FnQ P Γ N pin fn (fun v _ => v = r) .ret st := FnQ.ret hg hr hk
theorem FnQ.finP {fn : Func} {r v : V} {st' : St} (hg : Gh Γ N [] pin st st') (hr : RetV P Γ N [] fn st' v) (hk : v = r) : FnQ P Γ N pin fn (fun v _ => v = r) .normal st := FnQ.fin hg hr hk

theorem DS.gT' {l : List Oper} {H : Nat → Hs} {r rk : Nat} {E E' : Env} {o : Oper} {os : List Oper} {v : V} {ds : List DI} {j dj : Nat} {w b : Bool} (h : ∀ s, LOp P Γ o (restr (readsOf o) E) s (EqK v s)) (hg : o.guard = some (j, w))
    (hj : (l[j]?).bind (·.dst) = some dj) (hb : E.lookup dj = some (.i (.bool b))) (hw : b = w) (hn : Nat.blt dj N = true) (hd : dOk o.dst N = true)
    (hs : DS P Γ N l H r rk (putE o.dst v E) os ds E') : DS P Γ N l H r rk E (o :: os) (⟨v, false, 0⟩ :: ds) E' := by
  subst hw; exact .gT h hg hj hb hn hd hs

/-! Calls with memory. -/

def okCall (ids : List Nat) (nx0 nx0' nx : Nat) (ks : List Nat) : Bool :=
  Nat.ble nx0 nx0' && Nat.beq ids.length nx0 && (ids.all fun i => Nat.blt i nx) && nodupB ids && nodupB ks
def restH (ids : List Nat) (hp : Hp) : Hp := hp.filter fun p => !(ids.any fun i => Nat.beq i p.1)

theorem nodup_get : ∀ {l : List Nat}, l.Nodup → ∀ i j, i < l.length → j < l.length → (l[i]?).getD i = (l[j]?).getD j → i = j
  | [], _, i, _, hi, _, _ => absurd hi (Nat.not_lt_zero _)
  | a :: l, h, i, j, hi, hj, he => by
    obtain ⟨h1, h2⟩ := List.nodup_cons.1 h
    cases i with
    | zero =>
      cases j with
      | zero => rfl
      | succ j =>
        have hj' : j < l.length := by simpa using hj
        simp only [List.getElem?_cons_zero, List.getElem?_cons_succ, List.getElem?_eq_getElem hj', Option.getD_some] at he
        exact absurd (he ▸ List.getElem_mem hj') h1
    | succ i =>
      have hi' : i < l.length := by simpa using hi
      cases j with
      | zero =>
        simp only [List.getElem?_cons_zero, List.getElem?_cons_succ, List.getElem?_eq_getElem hi', Option.getD_some] at he
        exact absurd (he ▸ List.getElem_mem hi') h1
      | succ j =>
        have hj' : j < l.length := by simpa using hj
        simp only [List.getElem?_cons_succ, List.getElem?_eq_getElem hi', List.getElem?_eq_getElem hj', Option.getD_some] at he
        exact congrArg Nat.succ (nodup_get h2 i j hi' hj' (by rw [List.getElem?_eq_getElem hi', List.getElem?_eq_getElem hj']; exact he))

theorem CallOK.by (ids : List Nat) {f : FuncId} {args0 args : List V} {hp0 hp0' hp' : Hp} {nx0 nx0' : Nat} {r0 r : V} {s : Hs} (h : ACall P Γ f args0 ⟨hp0, nx0, Ext.emp⟩ (EqK r0 ⟨hp0', nx0', Ext.emp⟩))
    (hok : okCall ids nx0 nx0' s.nx (hp0.map (·.1)) = true) (hargs : RenL (rho ids) nx0 args0 args) (hhp : HpR (rho ids) nx0 s.hp hp0) (hr : Ren (shiftR (rho ids) nx0 s.nx) nx0' r0 r)
    (hhp' : HpRen (shiftR (rho ids) nx0 s.nx) nx0' hp0' hp') : CallOK P Γ f args s (EqK r ⟨hp' ++ restH ids s.hp, s.nx + (nx0' - nx0), s.ex⟩) := by
  simp only [okCall, Bool.and_eq_true, List.all_eq_true, Nat.blt_eq, Nat.beq_eq] at hok
  obtain ⟨⟨⟨⟨h1, h2⟩, h3⟩, h4⟩, h5⟩ := hok
  have hin : ∀ j, j < nx0 → rho ids j ∈ ids := fun j hj => by
    have : j < ids.length := by omega
    simp only [rho, List.getElem?_eq_getElem this, Option.getD_some]
    exact List.getElem_mem this
  refine CallOK.of h (Nat.le_of_ble_eq_true h1) (rho ids) (fun j hj => h3 _ (hin j hj)) (fun i j hi hj he => nodup_get (nodupB_iff h4) i j (by omega) (by omega) he) hargs hhp (nodupB_iff h5)
    List.filter_sublist (fun i hi j hj he => ?_) hr hhp'
  obtain ⟨p, hp, rfl⟩ := List.mem_map.1 hi
  have := (List.mem_filter.1 hp).2
  simp only [Bool.not_eq_true', List.any_eq_false, Nat.beq_eq] at this
  exact this _ (hin j hj) he

theorem CallOK.is {f : FuncId} {args : List V} {s s1 s2 : Hs} {v w : V} (h : CallOK P Γ f args s (EqK v s1)) (hv : v = w) (hs : s1 = s2) : CallOK P Γ f args s (EqK w s2) := by subst hv hs; exact h

theorem FnQ.retE (keep : List Nat) {fn : Func} {r v : V} {s : Hs} {st' : St} (hg : Gh Γ N [] pin st st') (hr : RetV P Γ N [] fn st' v) (hk : v = r)
    (hs : (⟨st'.s.hp.filter fun p => keep.any fun i => Nat.beq i p.1, st'.s.nx, st'.s.ex⟩ : Hs) = s) : FnQ P Γ N pin fn (EqK r s) .ret st := ⟨.inr rfl, st', v, _, hg, hr, DropR.of List.filter_sublist, hk, hs⟩
theorem FnQ.finE (keep : List Nat) {fn : Func} {r v : V} {s : Hs} {st' : St} (hg : Gh Γ N [] pin st st') (hr : RetV P Γ N [] fn st' v) (hk : v = r)
    (hs : (⟨st'.s.hp.filter fun p => keep.any fun i => Nat.beq i p.1, st'.s.nx, st'.s.ex⟩ : Hs) = s) : FnQ P Γ N pin fn (EqK r s) .normal st := ⟨.inl rfl, st', v, _, hg, hr, DropR.of List.filter_sublist, hk, hs⟩

/-! Steps that leave the state plain. -/

theorem AOps.go {ops : Array Oper} {o : Oper} {rest : List Oper} {e : Env} {s s' : Hs} {t : Nat} {v : V} (ho : LOp P Γ o e s (EqK v s')) (hg : o.guard = none) (ht : o.dst = some t) (hn : Nat.blt t N = true)
    (h : AOps P Γ ro N D pin ops rest Q ⟨(t, v) :: e, s'⟩) : AOps P Γ ro N D pin ops (o :: rest) Q ⟨e, s⟩ :=
  AOps.eq (st := ⟨e, s⟩) ho hg (by rw [ht]; exact hn) (by rw [ht]; exact h)
theorem AOps.gn {ops : Array Oper} {o : Oper} {rest : List Oper} {e : Env} {s s' : Hs} {v : V} (ho : LOp P Γ o e s (EqK v s')) (hg : o.guard = none) (ht : o.dst = none)
    (h : AOps P Γ ro N D pin ops rest Q ⟨e, s'⟩) : AOps P Γ ro N D pin ops (o :: rest) Q ⟨e, s⟩ :=
  AOps.eq (st := ⟨e, s⟩) ho hg (by rw [ht]; rfl) (by rw [ht]; exact h)
theorem AOps.goT {ops : Array Oper} {o : Oper} {rest : List Oper} {e : Env} {s s' : Hs} {t : Nat} {v : V} {j dj : Nat} {w b : Bool} (ho : LOp P Γ o e s (EqK v s')) (hg : o.guard = some (j, w)) (hj : (ops[j]?).bind (·.dst) = some dj)
    (hb : e.lookup dj = some (.i (.bool b))) (hw : b = w) (hn : Nat.blt dj N = true) (ht : o.dst = some t) (hn2 : Nat.blt t N = true)
    (h : AOps P Γ ro N D pin ops rest Q ⟨(t, v) :: e, s'⟩) : AOps P Γ ro N D pin ops (o :: rest) Q ⟨e, s⟩ :=
  AOps.eqT' (st := ⟨e, s⟩) ho hg hj hb hw hn (by rw [ht]; exact hn2) (by rw [ht]; exact h)
theorem AOps.goF {ops : Array Oper} {o : Oper} {rest : List Oper} {e : Env} {s : Hs} {t : Nat} {j dj : Nat} {w b : Bool} (hg : o.guard = some (j, w)) (hj : (ops[j]?).bind (·.dst) = some dj)
    (hb : e.lookup dj = some (.i (.bool b))) (hbw : b = !w) (hn : Nat.blt dj N = true) (ht : o.dst = some t) (hn2 : Nat.blt t N = true)
    (h : AOps P Γ ro N D pin ops rest Q ⟨(t, .junk) :: e, s⟩) : AOps P Γ ro N D pin ops (o :: rest) Q ⟨e, s⟩ :=
  AOps.skip (st := ⟨e, s⟩) hg hj hb hbw hn (by rw [ht]; exact hn2) (by rw [ht]; exact h)
theorem AOps.gnF {ops : Array Oper} {o : Oper} {rest : List Oper} {e : Env} {s : Hs} {j dj : Nat} {w b : Bool} (hg : o.guard = some (j, w)) (hj : (ops[j]?).bind (·.dst) = some dj)
    (hb : e.lookup dj = some (.i (.bool b))) (hbw : b = !w) (hn : Nat.blt dj N = true) (ht : o.dst = none)
    (h : AOps P Γ ro N D pin ops rest Q ⟨e, s⟩) : AOps P Γ ro N D pin ops (o :: rest) Q ⟨e, s⟩ :=
  AOps.skip (st := ⟨e, s⟩) hg hj hb hbw hn (by rw [ht]; rfl) (by rw [ht]; exact h)
theorem AOps.gnT {ops : Array Oper} {o : Oper} {rest : List Oper} {e : Env} {s s' : Hs} {v : V} {j dj : Nat} {w b : Bool} (ho : LOp P Γ o e s (EqK v s')) (hg : o.guard = some (j, w)) (hj : (ops[j]?).bind (·.dst) = some dj)
    (hb : e.lookup dj = some (.i (.bool b))) (hw : b = w) (hn : Nat.blt dj N = true) (ht : o.dst = none)
    (h : AOps P Γ ro N D pin ops rest Q ⟨e, s'⟩) : AOps P Γ ro N D pin ops (o :: rest) Q ⟨e, s⟩ :=
  AOps.eqT' (st := ⟨e, s⟩) ho hg hj hb hw hn (by rw [ht]; rfl) (by rw [ht]; exact h)
theorem AOps.goK {ops : Array Oper} {o : Oper} {rest : List Oper} {e : Env} {s : Hs} {t : Nat} {K : V → Hs → Prop} (ho : LOp P Γ o e s K) (hg : o.guard = none) (ht : o.dst = some t) (hn : Nat.blt t N = true)
    (h : ∀ v s', K v s' → AOps P Γ ro N D pin ops rest Q ⟨(t, v) :: e, s'⟩) : AOps P Γ ro N D pin ops (o :: rest) Q ⟨e, s⟩ :=
  AOps.step (st := ⟨e, s⟩) hg (by rw [ht]; exact hn) ho (by rw [ht]; exact h)
theorem AWp.after {c : Code} (h : AWp P Γ ro N D pin c (fun x st => ∃ st', Gh Γ N D pin st st' ∧ Q x st') st) : AWp P Γ ro N D pin c Q st := fun m a W α S B hs =>
  Code.wpIn_mono (fun x a' W' hq => by
    obtain ⟨st', α', S', B', ⟨st2, hg, hq⟩, h1, h2, h3⟩ := hq
    obtain ⟨α2, S2, B2, h4, h5, h6⟩ := hg α' S' B' a' W' h1
    exact ⟨st2, α2, S2, B2, hq, h4, h2.trans h5, h3.trans h6⟩) (h m a W α S B hs)
theorem AWp.drawnG {id : Nat} {l : List Oper} {its : List DI} {E' : Env} {st' : St} (H : Nat → Hs) (r : Nat) (hm : P.follows .mixedOrders = true) (h0 : H 0 = st.s) (h : DS P Γ N l H r 0 st.e l its E')
    (hok : (drawOk l its && Nat.beq (rank its l.length) r) = true) (hg : Gh Γ N D pin ⟨E', H r⟩ st') (hQ : Q .normal st') : AWp P Γ ro N D pin (.region id l.toArray true) Q st :=
  AWp.after (AWp.drawn H r hm h0 h hok ⟨st', hg, hQ⟩)
theorem AOps.fin {ops : Array Oper} {st' : St} (hg : Gh Γ N D pin st st') (h : Q .normal st') : AOps P Γ ro N D pin ops [] Q st := AOps.ghost hg (AOps.nil h)

/-- Operations whose outcome is told by an equation. -/
theorem LOp.is {o : Oper} {e : Env} {s s1 s2 : Hs} {v w : V} (h : LOp P Γ o e s (EqK v s1)) (hv : v = w) (hs : s1 = s2) : LOp P Γ o e s (EqK w s2) := by subst hv hs; exact h
end
end Go.Ab
