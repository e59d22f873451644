/-
  The layer Ab, part 11: a region whose order is drawn.
-/
import Derived.Test.YtnfdggpfidngkaaGreatDoorAbAppend
import Derived.OrdersIn
namespace Go.Ab

def tmpOf : Operand → Option Nat
  | .tmp t => some t
  | _ => none

/-- The temporaries that an operation reads, its guard's apart. -/
def readsOf (o : Oper) : List Nat := o.op.operands.toList.filterMap tmpOf

def restr (ns : List Nat) (E : Env) : Env := E.filter fun p => ns.contains p.1

theorem restr_lookup (ns : List Nat) (E : Env) (t : Nat) (v : V) (h : (restr ns E).lookup t = some v) : t ∈ ns ∧ E.lookup t = some v := by
  induction E with
  | nil => simp [restr] at h
  | cons p E ih =>
    obtain ⟨i, c⟩ := p
    by_cases hi : ns.contains i = true
    · have hr : restr ns ((i, c) :: E) = (i, c) :: restr ns E := by simp only [restr, List.filter_cons, hi, if_true]
      rw [hr] at h
      simp only [List.lookup_cons] at h ⊢
      by_cases ht : t = i
      · subst ht; simp at h ⊢; exact ⟨by simpa using hi, h⟩
      · have hb : (t == i) = false := by simp [ht]
        rw [hb] at h ⊢
        exact ih h
    · have hr : restr ns ((i, c) :: E) = restr ns E := by simp only [restr, List.filter_cons, if_neg hi]
      rw [hr] at h
      obtain ⟨h1, h2⟩ := ih h
      refine ⟨h1, ?_⟩
      have ht : t ≠ i := fun e => hi (by subst e; simpa using h1)
      have hb : (t == i) = false := by simp [ht]
      simp only [List.lookup_cons, hb]
      exact h2

structure DI where
  v : V
  wr : Bool
  lo : Nat

def guardOf (o : Oper) (l : List Oper) : Option Nat := match o.guard with
  | some (j, _) => (l[j]?).bind (·.dst)
  | none => none

def namesOf (l : List Oper) (o : Oper) : List Nat := readsOf o ++ (guardOf o l).toList

def dstIn (o : Oper) (ns : List Nat) : Bool := match o.dst with
  | some t => ns.contains t
  | none => false

/-- Is operation a ahead of operation b in every order? -/
def direct (l : List Oper) (a : Nat) (b : Nat) : Bool := match l[b]? with
  | some o => o.after.toList.any fun e => Region.binds .any e && Nat.beq e.on a
  | none => false

def ahead (l : List Oper) (a b : Nat) : Bool := direct l a b || (List.range l.length).any fun c => direct l a c && direct l c b

def confOk (l : List Oper) (j i : Nat) : Bool := match l[j]?, l[i]? with
  | some p, some o => !(dstIn p (namesOf l o ++ o.dst.toList) || dstIn o (namesOf l p)) || direct l j i
  | _, _ => true

def wrOf (its : List DI) (i : Nat) : Bool := match its[i]? with
  | some d => d.wr
  | none => false

def rank (its : List DI) : Nat → Nat
  | 0 => 0
  | i + 1 => rank its i + (if wrOf its i then 1 else 0)

/-- What is reckoned of a drawn region: what meets in a temporary is in order; so are those that write memory. -/
def drawOk (l : List Oper) (its : List DI) : Bool :=
  Nat.beq its.length l.length &&
  (List.range l.length).all fun i =>
    (match l[i]? with | some o => o.after.toList.all (fun e => !Region.binds .any e || Nat.blt e.on i) | none => true) &&
    (match its[i]? with | some d => d.wr || Nat.ble d.lo (rank its i) | none => true) &&
    (List.range i).all fun j => confOk l j i && (!(wrOf its i && wrOf its j) || ahead l j i) &&
      (match its[i]? with | some d => !(!d.wr && wrOf its j && Nat.blt (rank its j) d.lo) || ahead l j i | none => true)

def envAt (l : List Oper) (its : List DI) (e : Env) : Nat → Env
  | 0 => e
  | i + 1 => match l[i]?, its[i]? with
    | some o, some d => putE o.dst d.v (envAt l its e i)
    | _, _ => envAt l its e i

def Void (v : V) : Prop := ∀ α S W x, VR α S W v x

/-- What is asked of one operation. -/
def DStep (P : Program) (Γ : Glob) (N : Nat) (l : List Oper) (E : Env) (o : Oper) (v : V) (s s' : Hs) : Prop :=
  dOk o.dst N = true ∧ match o.guard with
  | none => LOp P Γ o (restr (readsOf o) E) s (EqK v s')
  | some (j, w) => ∃ dj b, (l[j]?).bind (·.dst) = some dj ∧ E.lookup dj = some (.i (.bool b)) ∧ Nat.blt dj N = true ∧
      (b = w → LOp P Γ o (restr (readsOf o) E) s (EqK v s')) ∧ (b ≠ w → Void v ∧ s' = s)

section
variable {P : Program} {Γ : Glob} {ro : Option Nat} {N : Nat} {D : List Deferred} {pin : Nat} {Q : Exit → St → Prop} {st : St} {l : List Oper} {its : List DI}

def isL (listed : Array Bool) (i : Nat) : Bool := listed.getD i false

/-- What a temporary holds when some operations have been carried out. -/
def look (l : List Oper) (its : List DI) (e : Env) (X : Nat → Bool) (t : Nat) : Nat → Option V
  | 0 => e.lookup t
  | i + 1 => match l[i]?, its[i]? with
    | some o, some d => if X i = true ∧ o.dst = some t then some d.v else look l its e X t i
    | _, _ => look l its e X t i

theorem look_env (e : Env) (t : Nat) : ∀ i, look l its e (fun _ => true) t i = (envAt l its e i).lookup t := by
  intro i
  induction i with
  | zero => rfl
  | succ i ih =>
    simp only [look, envAt]
    cases h1 : l[i]? with
    | none => simpa [h1] using ih
    | some o =>
      cases h2 : its[i]? with
      | none => simpa [h1, h2] using ih
      | some d =>
        simp only []
        cases hd : o.dst with
        | none => simp [putE, ih]
        | some u =>
          simp only [putE, List.lookup_cons]
          by_cases hu : t = u
          · subst hu; simp
          · have hb : (t == u) = false := by simp [hu]
            rw [hb, if_neg (by simp [Ne.symm hu])]
            exact ih

/-- Where from some place on nobody has written. -/
theorem look_from (e : Env) (X : Nat → Bool) (t : Nat) (i : Nat) : ∀ n, i ≤ n → (∀ j o, i ≤ j → j < n → l[j]? = some o → o.dst = some t → X j = false) → look l its e X t n = look l its e X t i := by
  intro n
  induction n with
  | zero => intro h _; have : i = 0 := by omega
            subst this; rfl
  | succ n ih =>
    intro h hn
    by_cases hi : i = n + 1
    · subst hi; rfl
    · have h1 := ih (by omega) fun j o h1 h2 h3 h4 => hn j o h1 (by omega) h3 h4
      simp only [look]
      cases h2 : l[n]? with
      | none => exact h1
      | some o =>
        cases h3 : its[n]? with
        | none => exact h1
        | some d =>
          simp only []
          rw [if_neg]
          · exact h1
          · rintro ⟨hx, hd⟩
            have := hn n o (by omega) (by omega) h2 hd
            rw [this] at hx; cases hx

theorem look_congr (e : Env) (X Y : Nat → Bool) (t : Nat) : ∀ n, (∀ j o, j < n → l[j]? = some o → o.dst = some t → X j = Y j) → look l its e X t n = look l its e Y t n := by
  intro n
  induction n with
  | zero => intro _; rfl
  | succ n ih =>
    intro h
    have h1 := ih fun j o hj => h j o (by omega)
    simp only [look]
    cases h2 : l[n]? with
    | none => exact h1
    | some o =>
      cases h3 : its[n]? with
      | none => exact h1
      | some d =>
        simp only []
        by_cases hd : o.dst = some t
        · have := h n o (by omega) h2 hd
          rw [this, h1]
        · simp only [hd, and_false, if_false]; exact h1

def cnt (its : List DI) (X : Nat → Bool) : Nat → Nat
  | 0 => 0
  | i + 1 => cnt its X i + (if X i && wrOf its i then 1 else 0)

theorem cnt_le_rank (X : Nat → Bool) : ∀ n, cnt its X n ≤ rank its n := by
  intro n
  induction n with
  | zero => exact Nat.le_refl _
  | succ n ih => simp only [cnt, rank]; cases X n <;> cases wrOf its n <;> simp <;> omega

theorem cnt_all (X : Nat → Bool) : ∀ n, (∀ j, j < n → wrOf its j = true → X j = true) → cnt its X n = rank its n := by
  intro n
  induction n with
  | zero => intro _; rfl
  | succ n ih =>
    intro h
    simp only [cnt, rank]
    rw [ih fun j hj => h j (by omega)]
    cases hw : wrOf its n with
    | false => simp
    | true => rw [h n (by omega) hw]; simp

theorem cnt_mono (X : Nat → Bool) (i : Nat) : ∀ n, i ≤ n → cnt its X i ≤ cnt its X n := by
  intro n
  induction n with
  | zero => intro h; have : i = 0 := by omega
            subst this; exact Nat.le_refl _
  | succ n ih =>
    intro h
    by_cases hi : i = n + 1
    · subst hi; exact Nat.le_refl _
    · simp only [cnt]; have := ih (by omega); omega

theorem cnt_none (X : Nat → Bool) (i : Nat) : ∀ n, i ≤ n → (∀ j, i ≤ j → j < n → wrOf its j = true → X j = false) → cnt its X n = cnt its X i := by
  intro n
  induction n with
  | zero => intro h _; have : i = 0 := by omega
            subst this; rfl
  | succ n ih =>
    intro h hn
    by_cases hi : i = n + 1
    · subst hi; rfl
    · simp only [cnt]
      rw [ih (by omega) fun j h1 h2 => hn j h1 (by omega)]
      cases hw : wrOf its n with
      | false => simp
      | true => rw [hn n (by omega) (by omega) hw]; simp

theorem cnt_set (X Y : Nat → Bool) (i : Nat) (hX : X i = false) (hY : ∀ j, Y j = if j = i then true else X j) : ∀ n, cnt its Y n = cnt its X n + (if i < n ∧ wrOf its i = true then 1 else 0) := by
  intro n
  induction n with
  | zero => simp [cnt]
  | succ n ih =>
    simp only [cnt, ih, hY n]
    by_cases hn : n = i
    · subst hn
      cases hw : wrOf its n <;> simp [hX]
    · simp only [if_neg hn]
      by_cases h : i < n
      · have : i < n + 1 := by omega
        simp only [h, this, true_and]
        omega
      · have : ¬ i < n + 1 := by omega
        simp [h, this]

theorem ahead_listed {X : Nat → Bool} (hcl : ∀ i, X i = true → ∀ j, direct l j i = true → X j = true) {a b : Nat} (hb : ∀ j, direct l j b = true → X j = true) (h : ahead l a b = true) : X a = true := by
  simp only [ahead, Bool.or_eq_true, List.any_eq_true, Bool.and_eq_true] at h
  rcases h with h | ⟨c, _, h1, h2⟩
  · exact hb a h
  · exact hcl c (hb c h2) a h1

theorem direct_iff {a b : Nat} : direct l a b = true ↔ ∃ o, l[b]? = some o ∧ ∃ e ∈ o.after, Region.binds .any e = true ∧ e.on = a := by
  unfold direct
  cases h : l[b]? with
  | none => simp
  | some o =>
    simp only [List.any_eq_true, Bool.and_eq_true, Option.some.injEq, exists_eq_left']
    constructor
    · rintro ⟨e, he, h1, h2⟩; exact ⟨e, by simpa using he, h1, Nat.eq_of_beq_eq_true h2⟩
    · rintro ⟨e, he, h1, rfl⟩; exact ⟨e, by simpa using he, h1, Nat.beq_refl _⟩

/-- What the reckoning says. -/
structure DrawOK (l : List Oper) (its : List DI) : Prop where
  len : its.length = l.length
  edge : ∀ i o, l[i]? = some o → ∀ e ∈ o.after, Region.binds .any e = true → e.on < i
  conf : ∀ i j o p, j < i → l[i]? = some o → l[j]? = some p → (dstIn p (namesOf l o ++ o.dst.toList) || dstIn o (namesOf l p)) = true → direct l j i = true
  wrs : ∀ i j, j < i → i < l.length → wrOf its i = true → wrOf its j = true → ahead l j i = true
  lo : ∀ i j d, j < i → its[i]? = some d → d.wr = false → wrOf its j = true → rank its j < d.lo → ahead l j i = true
  loLe : ∀ i d, its[i]? = some d → d.wr = false → d.lo ≤ rank its i

theorem drawOk_spec (h : drawOk l its = true) : DrawOK l its := by
  simp only [drawOk, Bool.and_eq_true, List.all_eq_true, List.mem_range] at h
  obtain ⟨h1, h2⟩ := h
  have hlen := Nat.eq_of_beq_eq_true h1
  refine ⟨hlen, fun i o ho e he hb => ?_, fun i j o p hji ho hp hc => ?_, fun i j hji hi hwi hwj => ?_, fun i j d hji hd hw hwj hr => ?_, fun i d hd hw => ?_⟩
  · have hlt := (List.getElem?_eq_some_iff.1 ho).1
    have h3 := (h2 i hlt).1.1
    rw [ho] at h3
    have := List.all_eq_true.1 h3 e (by simpa using he)
    simp only [hb, Bool.not_true, Bool.false_or, Nat.blt_eq] at this
    exact this
  · have hlt := (List.getElem?_eq_some_iff.1 ho).1
    have h3 := ((h2 i hlt).2 j hji).1.1
    simp only [confOk, hp, ho, hc, Bool.not_true, Bool.false_or] at h3
    exact h3
  · have h3 := ((h2 i hi).2 j hji).1.2
    simp only [hwi, hwj, Bool.and_self, Bool.not_true, Bool.false_or] at h3
    exact h3
  · have hlt := (List.getElem?_eq_some_iff.1 hd).1
    have h3 := ((h2 i (by omega)).2 j hji).2
    have hb : Nat.blt (rank its j) d.lo = true := by simpa [Nat.blt_eq] using hr
    simp only [hd, hw, hwj, hb, Bool.not_false, Bool.and_self, Bool.not_true, Bool.false_or] at h3
    exact h3
  · have hlt := (List.getElem?_eq_some_iff.1 hd).1
    have h3 := (h2 i (by omega)).1.2
    simp only [hd, hw, Bool.false_or] at h3
    exact Nat.le_of_ble_eq_true h3

/-- Which memories an operation meets. -/
def HAt (its : List DI) (r : Nat) (i : Nat) (d : DI) (k : Nat) : Prop := if d.wr = true then k = rank its i else d.lo ≤ k ∧ k ≤ r

def un (X : Nat → Bool) : Nat → Nat
  | 0 => 0
  | i + 1 => un X i + (if X i then 0 else 1)

theorem un_set (X Y : Nat → Bool) (i : Nat) (hX : X i = false) (hY : ∀ j, Y j = if j = i then true else X j) : ∀ n, un Y n + (if i < n then 1 else 0) = un X n := by
  intro n
  induction n with
  | zero => simp [un]
  | succ n ih =>
    simp only [un, hY n]
    by_cases hn : n = i
    · subst hn
      have h1 : ¬ n < n := by omega
      have h2 : n < n + 1 := by omega
      simp only [h1, if_false] at ih
      simp only [if_true, hX, h2, Bool.false_eq_true, if_false]
      omega
    · simp only [if_neg hn]
      by_cases h : i < n
      · have h2 : i < n + 1 := by omega
        simp only [h, if_true] at ih
        simp only [h2, if_true]
        omega
      · have h2 : ¬ i < n + 1 := by omega
        simp only [h, if_false] at ih
        simp only [h2, if_false]
        omega

theorem un_zero (X : Nat → Bool) : ∀ n, un X n = 0 → ∀ i, i < n → X i = true := by
  intro n
  induction n with
  | zero => intro _ i hi; omega
  | succ n ih =>
    intro h i hi
    simp only [un] at h
    by_cases hn : i = n
    · subst hn; cases hx : X i with
      | true => rfl
      | false => rw [hx] at h; simp at h
    · exact ih (by omega) i (by omega)

theorem un_all (n : Nat) : un (fun _ => false) n = n := by
  induction n with
  | zero => rfl
  | succ n ih => simp [un, ih]

theorem least (X : Nat → Bool) : ∀ n, (∃ i, i < n ∧ X i = false) → ∃ i, i < n ∧ X i = false ∧ ∀ j, j < i → X j = true := by
  intro n
  induction n with
  | zero => rintro ⟨i, hi, _⟩; omega
  | succ n ih =>
    rintro ⟨i, hi, hx⟩
    by_cases h : ∃ i, i < n ∧ X i = false
    · obtain ⟨k, h1, h2, h3⟩ := ih h; exact ⟨k, by omega, h2, h3⟩
    · refine ⟨i, hi, hx, fun j hj => ?_⟩
      cases hxj : X j with
      | true => rfl
      | false => exact absurd ⟨j, by omega, hxj⟩ h

theorem dstIn_mem {o : Oper} {t : Nat} {ns : List Nat} (hd : o.dst = some t) (h : t ∈ ns) : dstIn o ns = true := by simp [dstIn, hd, h]

theorem AWp.draw {id : Nat} (hm : P.follows .mixedOrders = true) (H : Nat → Hs) (h0 : H 0 = st.s) (hok : drawOk l its = true)
    (hstep : ∀ i o d k, l[i]? = some o → its[i]? = some d → HAt its (rank its l.length) i d k → DStep P Γ N l (envAt l its st.e i) o d.v (H k) (H (if d.wr then k + 1 else k)))
    (hQ : Q .normal ⟨envAt l its st.e l.length, H (rank its l.length)⟩) : AWp P Γ ro N D pin (.region id l.toArray true) Q st := by
  have ok := drawOk_spec hok
  intro m a W α S B hs
  refine wpIn_region_any hm ?_
  -- all is carried out
  have done : ∀ (listed : Array Bool) (a₁ : Act) (W₁ : World) (α₁ : Nat → Option (Nat × Nat)) (S₁ B₁ : Nat → Prop), (∀ i, i < l.length → isL listed i = true) →
      a₁.tmps.size = N → a₁.defers = D → (∀ t v, look l its st.e (isL listed) t l.length = some v → VR α₁ S₁ W₁ v (a₁.tmps.getD t undef)) →
      HRel Γ α₁ S₁ B₁ (H (cnt its (isL listed) l.length)) W₁ → Fr S B W S₁ B₁ W₁ → Al α α₁ → Post Γ N D pin α S B W Q .normal a₁ W₁ := by
    intro listed a₁ W₁ α₁ S₁ B₁ hall h1 h2 h3 h4 h5 h6
    refine ⟨_, α₁, S₁, B₁, hQ, ⟨h1, h2, fun t v ht => ?_, ?_⟩, h5, h6.pin pin⟩
    · have e1 := look_env (l := l) (its := its) st.e t l.length
      have e2 := look_congr (l := l) (its := its) st.e (isL listed) (fun _ => true) t l.length (fun j o hj _ _ => hall j hj)
      exact h3 t v (by rw [e2, e1]; exact ht)
    · have e1 := cnt_all (its := its) (isL listed) l.length (fun j hj _ => hall j hj)
      rw [e1] at h4; exact h4
  have key : ∀ (fuel : Nat) (listed : Array Bool) (a₁ : Act) (W₁ : World) (α₁ : Nat → Option (Nat × Nat)) (S₁ B₁ : Nat → Prop),
      listed.size = l.length → (∀ i, isL listed i = true → ∀ j, direct l j i = true → isL listed j = true) → un (isL listed) l.length ≤ fuel →
      a₁.tmps.size = N → a₁.defers = D → (∀ t v, look l its st.e (isL listed) t l.length = some v → VR α₁ S₁ W₁ v (a₁.tmps.getD t undef)) →
      HRel Γ α₁ S₁ B₁ (H (cnt its (isL listed) l.length)) W₁ → Fr S B W S₁ B₁ W₁ → Al α α₁ →
      wpAnyIn (Fe ro) m P .any l.toArray (Post Γ N D pin α S B W Q) fuel listed a₁ W₁ := by
    intro fuel
    have ready : ∀ (listed : Array Bool), listed.size = l.length → Region.ready .any l.toArray listed = [] → ∀ i, i < l.length → isL listed i = true := by
      intro listed hsz hr i hi
      cases hx : isL listed i with
      | true => rfl
      | false =>
        obtain ⟨k, h1, h2, h3⟩ := least (isL listed) l.length ⟨i, hi, hx⟩
        have : k ∈ Region.ready .any l.toArray listed := by
          refine mem_ready.2 ⟨?_, l[k], by simp [h1], fun e he hb => ?_⟩
          · have hk : k < listed.size := by omega
            have h2' := h2
            simp only [isL, Array.getD, dif_pos hk] at h2' ⊢
            exact h2'
          · exact h3 e.on (ok.edge k l[k] (List.getElem?_eq_getElem h1) e he hb)
        rw [hr] at this; cases this
    induction fuel with
    | zero =>
      intro listed a₁ W₁ α₁ S₁ B₁ hsz hcl hun h1 h2 h3 h4 h5 h6
      have hall := un_zero (isL listed) l.length (by omega)
      refine ⟨?_, done listed a₁ W₁ α₁ S₁ B₁ hall h1 h2 h3 h4 h5 h6⟩
      refine List.eq_nil_iff_forall_not_mem.2 fun i hi => ?_
      obtain ⟨hn, o, ho, _⟩ := mem_ready.1 hi
      have hlt : i < l.length := by simpa using (Array.getElem?_eq_some_iff.1 ho).1
      have := hall i hlt
      have hk : i < listed.size := by omega
      simp only [isL, Array.getD, dif_pos hk] at this hn
      rw [this] at hn; cases hn
    | succ fuel ih =>
      intro listed a₁ W₁ α₁ S₁ B₁ hsz hcl hun h1 h2 h3 h4 h5 h6
      refine ⟨fun hr => done listed a₁ W₁ α₁ S₁ B₁ (ready listed hsz hr) h1 h2 h3 h4 h5 h6, fun i hi => ?_⟩
      obtain ⟨hn, o, ho, hed⟩ := mem_ready.1 hi
      have hlt : i < l.length := by simpa using (Array.getElem?_eq_some_iff.1 ho).1
      have ho' : l[i]? = some o := by simpa using ho
      have hk : i < listed.size := by omega
      have hX : isL listed i = false := by simp only [isL, Array.getD, dif_pos hk] at hn ⊢; exact hn
      have hpre : ∀ j, direct l j i = true → isL listed j = true := fun j hj => by
        obtain ⟨o2, ho2, e, he, hb, rfl⟩ := direct_iff.1 hj
        rw [ho'] at ho2; cases ho2
        exact hed e he hb
      have hdl : i < its.length := by rw [ok.len]; exact hlt
      obtain ⟨dd, hdd⟩ : ∃ dd, its[i]? = some dd := ⟨its[i], List.getElem?_eq_getElem hdl⟩
      have hY : ∀ j, isL (listed.setIfInBounds i true) j = if j = i then true else isL listed j := fun j => by
        unfold isL
        by_cases hj : j = i
        · subst hj; simp [Array.getD, hk]
        · rw [if_neg hj]; exact getD_set_ne false (Ne.symm hj)
      -- what the operation reads
      have hread : ∀ t, (t ∈ namesOf l o ∨ o.dst = some t) → look l its st.e (isL listed) t l.length = (envAt l its st.e i).lookup t := by
        intro t ht
        have hconf : ∀ j p, l[j]? = some p → p.dst = some t → j < i → isL listed j = true := fun j p hp hpd hji =>
          hpre j (ok.conf i j o p hji ho' hp (by
            have : dstIn p (namesOf l o ++ o.dst.toList) = true := dstIn_mem hpd (by rcases ht with ht | ht <;> simp [ht])
            simp [this]))
        have hconf2 : ∀ j p, l[j]? = some p → p.dst = some t → i < j → isL listed j = false := fun j p hp hpd hji => by
          have hdir := ok.conf j i p o hji hp ho' (by
            rcases ht with ht | ht
            · have : dstIn p (namesOf l o) = true := dstIn_mem hpd ht
              simp [this]
            · have : dstIn o (namesOf l p ++ p.dst.toList) = true := dstIn_mem ht (by simp [hpd])
              simp [this])
          cases hxj : isL listed j with
          | false => rfl
          | true => have := hcl j hxj i hdir; rw [hX] at this; cases this
        rw [look_from st.e (isL listed) t i l.length (by omega) (fun j p h1 _ hp hpd => by
          by_cases hji : j = i
          · subst hji; exact hX
          · exact hconf2 j p hp hpd (by omega))]
        rw [look_congr st.e (isL listed) (fun _ => true) t i (fun j p hj hp hpd => hconf j p hp hpd hj), look_env]
      -- which memory it meets
      have hH : HAt its (rank its l.length) i dd (cnt its (isL listed) l.length) := by
        unfold HAt
        have hwi : wrOf its i = dd.wr := by simp [wrOf, hdd]
        have hback : ∀ j, i < j → j < l.length → wrOf its i = true → wrOf its j = true → isL listed j = false := fun j hij hj hwi hwj => by
          cases hxj : isL listed j with
          | false => rfl
          | true =>
            have := ahead_listed hcl (fun k hk => hcl j hxj k hk) (ok.wrs j i hij hj hwj hwi)
            rw [hX] at this; cases this
        split
        · rename_i hw
          rw [cnt_none (isL listed) i l.length (by omega) (fun j h1 h2 h3 => by
            by_cases hji : j = i
            · subst hji; exact hX
            · exact hback j (by omega) h2 (by rw [hwi, hw]) h3)]
          exact cnt_all (isL listed) i (fun j hj hwj => ahead_listed hcl hpre (ok.wrs i j hj hlt (by rw [hwi, hw]) hwj))
        · rename_i hw
          have hw' : dd.wr = false := by simpa using hw
          refine ⟨?_, cnt_le_rank (isL listed) l.length⟩
          -- the writers of a rank below 'lo' are listed
          have hlist : ∀ j, j < i → wrOf its j = true → rank its j < dd.lo → isL listed j = true := fun j hj hwj hr => ahead_listed hcl hpre (ok.lo i j dd hj hdd hw' hwj hr)
          have hge : ∀ n, n ≤ i → min dd.lo (rank its n) ≤ cnt its (isL listed) n := by
            intro n
            induction n with
            | zero => intro _; simp [rank]
            | succ n ihn =>
              intro hn'
              have h7 := ihn (by omega)
              simp only [rank, cnt]
              cases hwn : wrOf its n with
              | false => simpa [hwn] using h7
              | true =>
                by_cases hrn : rank its n < dd.lo
                · rw [hlist n (by omega) hwn hrn]; simp; omega
                · simp only [if_true]
                  split <;> omega
          have h8 := hge i (Nat.le_refl _)
          have h9 := cnt_mono (its := its) (isL listed) i l.length (by omega)
          have h10 := ok.loLe i dd hdd hw'
          omega
      obtain ⟨hdok, hst⟩ := hstep i o dd _ ho' hdd hH
      have hwi : wrOf its i = dd.wr := by simp [wrOf, hdd]
      have hcnt : cnt its (isL (listed.setIfInBounds i true)) l.length = if dd.wr then cnt its (isL listed) l.length + 1 else cnt its (isL listed) l.length := by
        rw [cnt_set (its := its) (isL listed) _ i hX hY l.length, hwi]
        cases dd.wr <;> simp [hlt]
      have hun' : un (isL (listed.setIfInBounds i true)) l.length ≤ fuel := by
        have := un_set (isL listed) _ i hX hY l.length
        rw [if_pos hlt] at this; omega
      have hcl' : ∀ k, isL (listed.setIfInBounds i true) k = true → ∀ j, direct l j k = true → isL (listed.setIfInBounds i true) j = true := fun k hk' j hj => by
        rw [hY] at hk' ⊢
        by_cases hji : j = i
        · simp [hji]
        · rw [if_neg hji]
          by_cases hki : k = i
          · subst hki; exact hpre j hj
          · rw [if_neg hki] at hk'; exact hcl k hk' j hj
      have hlook : ∀ t, look l its st.e (isL (listed.setIfInBounds i true)) t l.length = if o.dst = some t then some dd.v else look l its st.e (isL listed) t l.length := fun t => by
        by_cases hdt : o.dst = some t
        · rw [if_pos hdt]
          rw [look_from st.e _ t (i + 1) l.length (by omega) (fun j p h1 h2 hp hpd => by
            rw [hY, if_neg (by omega)]
            have hdir := ok.conf j i p o (by omega) hp ho' (by
              have : dstIn o (namesOf l p ++ p.dst.toList) = true := dstIn_mem hdt (by simp [hpd])
              simp [this])
            cases hxj : isL listed j with
            | false => rfl
            | true => have := hcl j hxj i hdir; rw [hX] at this; cases this)]
          simp only [look, ho', hdd]
          rw [if_pos ⟨by rw [hY, if_pos rfl], hdt⟩]
        · rw [if_neg hdt]
          exact look_congr st.e _ _ t l.length (fun j p hj hp hpd => by
            rw [hY]
            by_cases hji : j = i
            · subst hji; rw [ho'] at hp; cases hp; exact absurd hpd hdt
            · rw [if_neg hji])
      have go : ∀ (x : Value) (α' : Nat → Option (Nat × Nat)) (S' B' : Nat → Prop) (W' : World), VR α' S' W' dd.v x → HRel Γ α' S' B' (H (if dd.wr then cnt its (isL listed) l.length + 1 else cnt its (isL listed) l.length)) W' →
          Fr S₁ B₁ W₁ S' B' W' → Al α₁ α' → wpAnyIn (Fe ro) m P .any l.toArray (Post Γ N D pin α S B W Q) fuel (listed.setIfInBounds i true) (a₁.put o.dst x) W' := by
        intro x α' S' B' W' hv hh hf hal
        refine ih _ _ W' α' S' B' (by simpa using hsz) hcl' hun' (by rw [put_size]; exact h1) (by rw [put_defers]; exact h2) (fun t v ht => ?_) (by rw [hcnt]; exact hh) (h5.trans hf) (h6.trans hal)
        rw [hlook] at ht
        by_cases hdt : o.dst = some t
        · rw [if_pos hdt] at ht; cases ht
          have htN : t < a₁.tmps.size := by rw [h1]; simpa [dOk, hdt, Nat.blt_eq] using hdok
          have : (a₁.put o.dst x).tmps.getD t undef = x := by simp [hdt, Act.put, Array.getD, htN]
          rw [this]; exact hv
        · rw [if_neg hdt] at ht
          have hold := (h3 t v ht).fr h4 hf hal
          have : (a₁.put o.dst x).tmps.getD t undef = a₁.tmps.getD t undef := by
            cases hd : o.dst with
            | none => rfl
            | some u =>
              have hne : u ≠ t := fun e => hdt (by rw [hd, e])
              simp only [Act.put, getD_toList, Array.toList_setIfInBounds]
              rw [List.getElem?_set, if_neg hne]
          rw [this]; exact hold
      have run : LOp P Γ o (restr (readsOf o) (envAt l its st.e i)) (H (cnt its (isL listed) l.length)) (EqK dd.v (H (if dd.wr then cnt its (isL listed) l.length + 1 else cnt its (isL listed) l.length))) →
          o.wpIn (Fe ro) m P a₁ W₁ (wpAnyIn (Fe ro) m P .any l.toArray (Post Γ N D pin α S B W Q) fuel (listed.setIfInBounds i true)) (Post Γ N D pin α S B W Q) := fun hL => by
        refine hL ro m a₁ W₁ α₁ S₁ B₁ _ _ (fun t v ht => ?_) h4 fun v s' x α' S' B' W' hk' hv hh hf hal => ?_
        · obtain ⟨r1, r2⟩ := restr_lookup _ _ t v ht
          exact h3 t v (by rw [hread t (.inl (by simp [namesOf, r1]))]; exact r2)
        · obtain ⟨rfl, rfl⟩ := hk'
          exact go x α' S' B' W' hv hh hf hal
      unfold wpOpIn
      rw [ho]
      simp only []
      cases hg : o.guard with
      | none =>
        rw [if_pos (by simp [Region.wanted, hg])]
        rw [hg] at hst
        exact run hst
      | some q =>
        obtain ⟨j, w⟩ := q
        rw [hg] at hst
        obtain ⟨dj, b, hdj, hlb, hdN, ht, hf⟩ := hst
        have hgd : guardOf o l = some dj := by simp [guardOf, hg, hdj]
        have hvb := h3 dj (.i (.bool b)) (by rw [hread dj (.inl (by simp [namesOf, hgd]))]; exact hlb)
        have hyb : yielded l.toArray a₁.tmps j = some b := by
          have hlt' : dj < a₁.tmps.size := by rw [h1]; simpa [Nat.blt_eq] using hdN
          have h2' : a₁.tmps[dj]? = some (.bool b) := by rw [← hvb.bool_inv]; simp [Array.getD, hlt']
          simp only [yielded, List.getElem?_toArray, hdj, Option.bind_some, h2']
        by_cases hbw : b = w
        · rw [if_pos (by simp [Region.wanted, hg, hyb, hbw])]
          exact run (ht hbw)
        · rw [if_neg (by simp [Region.wanted, hg, hyb, hbw])]
          obtain ⟨hvoid, hsame⟩ := hf hbw
          refine ⟨fun _ _ => trivial, ?_⟩
          refine go undef α₁ S₁ B₁ W₁ (hvoid _ _ _ _) ?_ (Fr.refl S₁ B₁ W₁) (Al.refl α₁)
          rw [hsame]; exact h4
  have hfalse : ∀ i, isL (Array.replicate l.length false) i = false := fun i => by
    unfold isL
    by_cases hi : i < l.length
    · simp [Array.getD, hi]
    · simp [Array.getD, hi]
  have hfn : isL (Array.replicate l.length false) = fun _ => false := funext hfalse
  have hlook0 : ∀ t, look l its st.e (fun _ => false) t l.length = st.e.lookup t := fun t => by
    rw [look_from st.e (fun _ => false) t 0 l.length (Nat.zero_le _) (fun _ _ _ _ _ _ => rfl)]; rfl
  have hcnt0 : ∀ n, cnt its (fun _ => false) n = 0 := fun n => by
    induction n with
    | zero => rfl
    | succ n ih => simp [cnt, ih]
  have hdw : HRel Γ α S B st.s { W with drawn := W.drawn + 1 } := hs.hp.drew
  have hfd : Fr S B W S B { W with drawn := W.drawn + 1 } := Fr.drew S B W
  have := key l.length (Array.replicate l.length false) a { W with drawn := W.drawn + 1 } α S B (by simp) (fun i hi => by rw [hfalse] at hi; cases hi) (by rw [hfn, un_all]; exact Nat.le_refl _) hs.size hs.defers
    (fun t v ht => by rw [hfn, hlook0] at ht; exact (hs.env t v ht).fr hs.hp hfd (Al.refl α)) (by rw [hfn, hcnt0, h0]; exact hdw) hfd (Al.refl α)
  simpa using this

end
end Go.Ab
