/-
  The layer Ab, part 17: a region whose order is drawn and whose writers are not all in a row.
-/
import Derived.Test.YtnfdggpfidngkaaGreatDoorAbEq
namespace Go.Ab

section
variable {P : Program} {Γ : Glob} {ro : Option Nat} {N : Nat} {D : List Deferred} {pin : Nat} {Q : Exit → St → Prop} {st : St} {l : List Oper} {its : List DI}

theorem AWp.drawM {id : Nat} (hm : P.follows .mixedOrders = true) (M : (Nat → Bool) → Hs) (h0 : M (fun _ => false) = st.s) (hM : ∀ X Y, (∀ i, i < l.length → X i = Y i) → M X = M Y) (hok : drawOk l its = true)
    (hstep : ∀ i o d X, l[i]? = some o → its[i]? = some d → X i = false → (∀ j, direct l j i = true → X j = true) → (∀ k, X k = true → ∀ j, direct l j k = true → X j = true) →
      DStep P Γ N l (envAt l its st.e i) o d.v (M X) (M (fun j => if j = i then true else X j)))
    (hQ : Q .normal ⟨envAt l its st.e l.length, M (fun _ => true)⟩) : AWp P Γ ro N D pin (.region id l.toArray true) Q st := by
  have ok := drawOk_spec hok
  intro m a W α S B hs
  refine wpIn_region_any hm ?_
  -- all is carried out
  have done : ∀ (listed : Array Bool) (a₁ : Act) (W₁ : World) (α₁ : Nat → Option (Nat × Nat)) (S₁ B₁ : Nat → Prop), (∀ i, i < l.length → isL listed i = true) →
      a₁.tmps.size = N → a₁.defers = D → (∀ t v, look l its st.e (isL listed) t l.length = some v → VR α₁ S₁ W₁ v (a₁.tmps.getD t undef)) →
      HRel Γ α₁ S₁ B₁ (M (isL listed)) W₁ → Fr S B W S₁ B₁ W₁ → Al α α₁ → Post Γ N D pin α S B W Q .normal a₁ W₁ := by
    intro listed a₁ W₁ α₁ S₁ B₁ hall h1 h2 h3 h4 h5 h6
    refine ⟨_, α₁, S₁, B₁, hQ, ⟨h1, h2, fun t v ht => ?_, ?_⟩, h5, h6.pin pin⟩
    · have e1 := look_env (l := l) (its := its) st.e t l.length
      have e2 := look_congr (l := l) (its := its) st.e (isL listed) (fun _ => true) t l.length (fun j o hj _ _ => hall j hj)
      exact h3 t v (by rw [e2, e1]; exact ht)
    · rw [hM (isL listed) (fun _ => true) (fun i hi => hall i hi)] at h4; exact h4
  have key : ∀ (fuel : Nat) (listed : Array Bool) (a₁ : Act) (W₁ : World) (α₁ : Nat → Option (Nat × Nat)) (S₁ B₁ : Nat → Prop),
      listed.size = l.length → (∀ i, isL listed i = true → ∀ j, direct l j i = true → isL listed j = true) → un (isL listed) l.length ≤ fuel →
      a₁.tmps.size = N → a₁.defers = D → (∀ t v, look l its st.e (isL listed) t l.length = some v → VR α₁ S₁ W₁ v (a₁.tmps.getD t undef)) →
      HRel Γ α₁ S₁ B₁ (M (isL listed)) W₁ → Fr S B W S₁ B₁ W₁ → Al α α₁ →
      wpAnyIn (Fe ro) m P .any l.toArray (Post Γ N D pin α S B W Q) fuel listed a₁ W₁ := by
    intro fuel
    have ready : ∀ (listed : Array Bool), listed.size = l.length → Region.ready .any l.toArray listed = [] → ∀ i, i < l.length → isL listed i = true := by
      intro listed hsz hr i hi
      cases hx : isL listed i with
      | true => rfl
      | false =>
        obtain ⟨k, h1, h2, h3⟩ := least (isL listed) l.length ⟨i, hi, hx⟩
        have : k ∈ Region.ready .any l.toArray listed := by
          refine mem_ready.2 ⟨?_, l[k], by simp [h1], fun e he hb => ?_⟩
          · have hk : k < listed.size := by omega
            have h2' := h2
            simp only [isL, Array.getD, dif_pos hk] at h2' ⊢
            exact h2'
          · exact h3 e.on (ok.edge k l[k] (List.getElem?_eq_getElem h1) e he hb)
        rw [hr] at this; cases this
    induction fuel with
    | zero =>
      intro listed a₁ W₁ α₁ S₁ B₁ hsz hcl hun h1 h2 h3 h4 h5 h6
      have hall := un_zero (isL listed) l.length (by omega)
      refine ⟨?_, done listed a₁ W₁ α₁ S₁ B₁ hall h1 h2 h3 h4 h5 h6⟩
      refine List.eq_nil_iff_forall_not_mem.2 fun i hi => ?_
      obtain ⟨hn, o, ho, _⟩ := mem_ready.1 hi
      have hlt : i < l.length := by simpa using (Array.getElem?_eq_some_iff.1 ho).1
      have := hall i hlt
      have hk : i < listed.size := by omega
      simp only [isL, Array.getD, dif_pos hk] at this hn
      rw [this] at hn; cases hn
    | succ fuel ih =>
      intro listed a₁ W₁ α₁ S₁ B₁ hsz hcl hun h1 h2 h3 h4 h5 h6
      refine ⟨fun hr => done listed a₁ W₁ α₁ S₁ B₁ (ready listed hsz hr) h1 h2 h3 h4 h5 h6, fun i hi => ?_⟩
      obtain ⟨hn, o, ho, hed⟩ := mem_ready.1 hi
      have hlt : i < l.length := by simpa using (Array.getElem?_eq_some_iff.1 ho).1
      have ho' : l[i]? = some o := by simpa using ho
      have hk : i < listed.size := by omega
      have hX : isL listed i = false := by simp only [isL, Array.getD, dif_pos hk] at hn ⊢; exact hn
      have hpre : ∀ j, direct l j i = true → isL listed j = true := fun j hj => by
        obtain ⟨o2, ho2, e, he, hb, rfl⟩ := direct_iff.1 hj
        rw [ho'] at ho2; cases ho2
        exact hed e he hb
      have hdl : i < its.length := by rw [ok.len]; exact hlt
      obtain ⟨dd, hdd⟩ : ∃ dd, its[i]? = some dd := ⟨its[i], List.getElem?_eq_getElem hdl⟩
      have hY : ∀ j, isL (listed.setIfInBounds i true) j = if j = i then true else isL listed j := fun j => by
        unfold isL
        by_cases hj : j = i
        · subst hj; simp [Array.getD, hk]
        · rw [if_neg hj]; exact getD_set_ne false (Ne.symm hj)
      -- what the operation reads
      have hread : ∀ t, (t ∈ namesOf l o ∨ o.dst = some t) → look l its st.e (isL listed) t l.length = (envAt l its st.e i).lookup t := by
        intro t ht
        have hconf : ∀ j p, l[j]? = some p → p.dst = some t → j < i → isL listed j = true := fun j p hp hpd hji =>
          hpre j (ok.conf i j o p hji ho' hp (by
            have : dstIn p (namesOf l o ++ o.dst.toList) = true := dstIn_mem hpd (by rcases ht with ht | ht <;> simp [ht])
            simp [this]))
        have hconf2 : ∀ j p, l[j]? = some p → p.dst = some t → i < j → isL listed j = false := fun j p hp hpd hji => by
          have hdir := ok.conf j i p o hji hp ho' (by
            rcases ht with ht | ht
            · have : dstIn p (namesOf l o) = true := dstIn_mem hpd ht
              simp [this]
            · have : dstIn o (namesOf l p ++ p.dst.toList) = true := dstIn_mem ht (by simp [hpd])
              simp [this])
          cases hxj : isL listed j with
          | false => rfl
          | true => have := hcl j hxj i hdir; rw [hX] at this; cases this
        rw [look_from st.e (isL listed) t i l.length (by omega) (fun j p h1 _ hp hpd => by
          by_cases hji : j = i
          · subst hji; exact hX
          · exact hconf2 j p hp hpd (by omega))]
        rw [look_congr st.e (isL listed) (fun _ => true) t i (fun j p hj hp hpd => hconf j p hp hpd hj), look_env]
      obtain ⟨hdok, hst⟩ := hstep i o dd (isL listed) ho' hdd hX hpre hcl
      have hMY : M (isL (listed.setIfInBounds i true)) = M (fun j => if j = i then true else isL listed j) := congrArg M (funext hY)
      have hun' : un (isL (listed.setIfInBounds i true)) l.length ≤ fuel := by
        have := un_set (isL listed) _ i hX hY l.length
        rw [if_pos hlt] at this; omega
      have hcl' : ∀ k, isL (listed.setIfInBounds i true) k = true → ∀ j, direct l j k = true → isL (listed.setIfInBounds i true) j = true := fun k hk' j hj => by
        rw [hY] at hk' ⊢
        by_cases hji : j = i
        · simp [hji]
        · rw [if_neg hji]
          by_cases hki : k = i
          · subst hki; exact hpre j hj
          · rw [if_neg hki] at hk'; exact hcl k hk' j hj
      have hlook : ∀ t, look l its st.e (isL (listed.setIfInBounds i true)) t l.length = if o.dst = some t then some dd.v else look l its st.e (isL listed) t l.length := fun t => by
        by_cases hdt : o.dst = some t
        · rw [if_pos hdt]
          rw [look_from st.e _ t (i + 1) l.length (by omega) (fun j p h1 h2 hp hpd => by
            rw [hY, if_neg (by omega)]
            have hdir := ok.conf j i p o (by omega) hp ho' (by
              have : dstIn o (namesOf l p ++ p.dst.toList) = true := dstIn_mem hdt (by simp [hpd])
              simp [this])
            cases hxj : isL listed j with
            | false => rfl
            | true => have := hcl j hxj i hdir; rw [hX] at this; cases this)]
          simp only [look, ho', hdd]
          rw [if_pos ⟨by rw [hY, if_pos rfl], hdt⟩]
        · rw [if_neg hdt]
          exact look_congr st.e _ _ t l.length (fun j p hj hp hpd => by
            rw [hY]
            by_cases hji : j = i
            · subst hji; rw [ho'] at hp; cases hp; exact absurd hpd hdt
            · rw [if_neg hji])
      have go : ∀ (x : Value) (α' : Nat → Option (Nat × Nat)) (S' B' : Nat → Prop) (W' : World), VR α' S' W' dd.v x → HRel Γ α' S' B' (M (fun j => if j = i then true else isL listed j)) W' →
          Fr S₁ B₁ W₁ S' B' W' → Al α₁ α' → wpAnyIn (Fe ro) m P .any l.toArray (Post Γ N D pin α S B W Q) fuel (listed.setIfInBounds i true) (a₁.put o.dst x) W' := by
        intro x α' S' B' W' hv hh hf hal
        refine ih _ _ W' α' S' B' (by simpa using hsz) hcl' hun' (by rw [put_size]; exact h1) (by rw [put_defers]; exact h2) (fun t v ht => ?_) (by rw [hMY]; exact hh) (h5.trans hf) (h6.trans hal)
        rw [hlook] at ht
        by_cases hdt : o.dst = some t
        · rw [if_pos hdt] at ht; cases ht
          have htN : t < a₁.tmps.size := by rw [h1]; simpa [dOk, hdt, Nat.blt_eq] using hdok
          have : (a₁.put o.dst x).tmps.getD t undef = x := by simp [hdt, Act.put, Array.getD, htN]
          rw [this]; exact hv
        · rw [if_neg hdt] at ht
          have hold := (h3 t v ht).fr h4 hf hal
          have : (a₁.put o.dst x).tmps.getD t undef = a₁.tmps.getD t undef := by
            cases hd : o.dst with
            | none => rfl
            | some u =>
              have hne : u ≠ t := fun e => hdt (by rw [hd, e])
              simp only [Act.put, getD_toList, Array.toList_setIfInBounds]
              rw [List.getElem?_set, if_neg hne]
          rw [this]; exact hold
      have run : LOp P Γ o (restr (readsOf o) (envAt l its st.e i)) (M (isL listed)) (EqK dd.v (M (fun j => if j = i then true else isL listed j))) →
          o.wpIn (Fe ro) m P a₁ W₁ (wpAnyIn (Fe ro) m P .any l.toArray (Post Γ N D pin α S B W Q) fuel (listed.setIfInBounds i true)) (Post Γ N D pin α S B W Q) := fun hL => by
        refine hL ro m a₁ W₁ α₁ S₁ B₁ _ _ (fun t v ht => ?_) h4 fun v s' x α' S' B' W' hk' hv hh hf hal => ?_
        · obtain ⟨r1, r2⟩ := restr_lookup _ _ t v ht
          exact h3 t v (by rw [hread t (.inl (by simp [namesOf, r1]))]; exact r2)
        · obtain ⟨rfl, rfl⟩ := hk'
          exact go x α' S' B' W' hv hh hf hal
      unfold wpOpIn
      rw [ho]
      simp only []
      cases hg : o.guard with
      | none =>
        rw [if_pos (by simp [Region.wanted, hg])]
        rw [hg] at hst
        exact run hst
      | some q =>
        obtain ⟨j, w⟩ := q
        rw [hg] at hst
        obtain ⟨dj, b, hdj, hlb, hdN, ht, hf⟩ := hst
        have hgd : guardOf o l = some dj := by simp [guardOf, hg, hdj]
        have hvb := h3 dj (.i (.bool b)) (by rw [hread dj (.inl (by simp [namesOf, hgd]))]; exact hlb)
        have hyb : yielded l.toArray a₁.tmps j = some b := by
          have hlt' : dj < a₁.tmps.size := by rw [h1]; simpa [Nat.blt_eq] using hdN
          have h2' : a₁.tmps[dj]? = some (.bool b) := by rw [← hvb.bool_inv]; simp [Array.getD, hlt']
          simp only [yielded, List.getElem?_toArray, hdj, Option.bind_some, h2']
        by_cases hbw : b = w
        · rw [if_pos (by simp [Region.wanted, hg, hyb, hbw])]
          exact run (ht hbw)
        · rw [if_neg (by simp [Region.wanted, hg, hyb, hbw])]
          obtain ⟨hvoid, hsame⟩ := hf hbw
          refine ⟨fun _ _ => trivial, ?_⟩
          refine go undef α₁ S₁ B₁ W₁ (hvoid _ _ _ _) ?_ (Fr.refl S₁ B₁ W₁) (Al.refl α₁)
          rw [hsame]; exact h4
  have hfalse : ∀ i, isL (Array.replicate l.length false) i = false := fun i => by
    unfold isL
    by_cases hi : i < l.length
    · simp [Array.getD, hi]
    · simp [Array.getD, hi]
  have hfn : isL (Array.replicate l.length false) = fun _ => false := funext hfalse
  have hlook0 : ∀ t, look l its st.e (fun _ => false) t l.length = st.e.lookup t := fun t => by
    rw [look_from st.e (fun _ => false) t 0 l.length (Nat.zero_le _) (fun _ _ _ _ _ _ => rfl)]; rfl
  have hdw : HRel Γ α S B st.s { W with drawn := W.drawn + 1 } := hs.hp.drew
  have hfd : Fr S B W S B { W with drawn := W.drawn + 1 } := Fr.drew S B W
  have := key l.length (Array.replicate l.length false) a { W with drawn := W.drawn + 1 } α S B (by simp) (fun i hi => by rw [hfalse] at hi; cases hi) (by rw [hfn, un_all]; exact Nat.le_refl _) hs.size hs.defers
    (fun t v ht => by rw [hfn, hlook0] at ht; exact (hs.env t v ht).fr hs.hp hfd (Al.refl α)) (by rw [hfn, h0]; exact hdw) hfd (Al.refl α)
  simpa using this

/-! Numbered states: which of the writers 'ws' have been carried out. -/

def closeB (l : List Oper) (ws : List Nat) (bs : List Bool) : Bool :=
  (ws.zip bs).all fun p => (ws.zip bs).all fun q => !(ahead l p.1 q.1 && q.2) || p.2
def mayB (l : List Oper) (ws : List Nat) (i : Nat) (bs : List Bool) : Bool :=
  (ws.zip bs).all fun p => (!ahead l p.1 i || p.2) && (!(Nat.beq p.1 i || ahead l i p.1) || !p.2)
def setB (ws : List Nat) (i : Nat) (bs : List Bool) : List Bool := (ws.zip bs).map fun p => Nat.beq p.1 i || p.2
def allB : Nat → List (List Bool)
  | 0 => [[]]
  | n + 1 => (allB n).map (false :: ·) ++ (allB n).map (true :: ·)
def beqB : List Bool → List Bool → Bool
  | [], [] => true
  | a :: l, b :: m => (a == b) && beqB l m
  | _, _ => false
def stNo (sts : List (List Bool)) (bs : List Bool) : Nat := sts.findIdx (beqB bs)
def allowed (l : List Oper) (ws : List Nat) (sts : List (List Bool)) (i : Nat) : List (Nat × Nat) :=
  (sts.filter (mayB l ws i)).map fun bs => (stNo sts bs, stNo sts (setB ws i bs))
def okSts (l : List Oper) (ws : List Nat) (sts : List (List Bool)) : Bool :=
  (ws.all fun w => Nat.blt w l.length) && (allB ws.length).all fun bs => !closeB l ws bs || sts.any (beqB bs)

def AllS {β : Type} : List β → (β → Prop) → Prop
  | [], _ => True
  | a :: l, p => p a ∧ AllS l p
theorem AllS.mem {β : Type} {p : β → Prop} : ∀ {l : List β}, AllS l p → ∀ a, a ∈ l → p a
  | _ :: _, h, a, hm => by
    rcases List.mem_cons.1 hm with rfl | hm
    · exact h.1
    · exact AllS.mem h.2 a hm

theorem beqB_iff : ∀ {a b : List Bool}, beqB a b = true ↔ a = b
  | [], [] => by simp [beqB]
  | [], _ :: _ => by simp [beqB]
  | _ :: _, [] => by simp [beqB]
  | a :: l, b :: m => by simp [beqB, beqB_iff (a := l) (b := m)]
theorem mem_allB : ∀ (bs : List Bool), bs ∈ allB bs.length
  | [] => by simp [allB]
  | b :: bs => by
    have := mem_allB bs
    cases b <;> simp [allB, this]

inductive DM (P : Program) (Γ : Glob) (N : Nat) (l : List Oper) (H : Nat → Hs) (ws : List Nat) (sts : List (List Bool)) : Nat → Env → List Oper → List DI → Env → Prop
  | nil (i : Nat) (E : Env) : DM P Γ N l H ws sts i E [] [] E
  | pure {i : Nat} {E E' : Env} {o : Oper} {os : List Oper} {v : V} {ds : List DI} (h : ∀ s, LOp P Γ o (restr (readsOf o) E) s (EqK v s)) (hw : ws.contains i = false) (hg : o.guard = none) (hd : dOk o.dst N = true)
      (hs : DM P Γ N l H ws sts (i + 1) (putE o.dst v E) os ds E') : DM P Γ N l H ws sts i E (o :: os) (⟨v, false, 0⟩ :: ds) E'
  | op {i : Nat} {E E' : Env} {o : Oper} {os : List Oper} {v : V} {ds : List DI} (h : AllS (allowed l ws sts i) (fun p => LOp P Γ o (restr (readsOf o) E) (H p.1) (EqK v (H p.2)))) (hg : o.guard = none) (hd : dOk o.dst N = true)
      (hs : DM P Γ N l H ws sts (i + 1) (putE o.dst v E) os ds E') : DM P Γ N l H ws sts i E (o :: os) (⟨v, false, 0⟩ :: ds) E'
  | gT {i : Nat} {E E' : Env} {o : Oper} {os : List Oper} {v : V} {ds : List DI} {j dj : Nat} {w b : Bool} (h : ∀ s, LOp P Γ o (restr (readsOf o) E) s (EqK v s)) (hnw : ws.contains i = false) (hg : o.guard = some (j, w))
      (hj : (l[j]?).bind (·.dst) = some dj) (hb : E.lookup dj = some (.i (.bool b))) (hw : b = w) (hn : Nat.blt dj N = true) (hd : dOk o.dst N = true)
      (hs : DM P Γ N l H ws sts (i + 1) (putE o.dst v E) os ds E') : DM P Γ N l H ws sts i E (o :: os) (⟨v, false, 0⟩ :: ds) E'
  | gF {i : Nat} {E E' : Env} {o : Oper} {os : List Oper} {ds : List DI} {j dj : Nat} {w b : Bool} (hnw : ws.contains i = false) (hg : o.guard = some (j, w))
      (hj : (l[j]?).bind (·.dst) = some dj) (hb : E.lookup dj = some (.i (.bool b))) (hbw : b = !w) (hn : Nat.blt dj N = true) (hd : dOk o.dst N = true)
      (hs : DM P Γ N l H ws sts (i + 1) (putE o.dst .junk E) os ds E') : DM P Γ N l H ws sts i E (o :: os) (⟨.junk, false, 0⟩ :: ds) E'

theorem setB_of {ws : List Nat} {i : Nat} {X : Nat → Bool} : ws.map (fun j => if j = i then true else X j) = setB ws i (ws.map X) := by
  induction ws with
  | nil => rfl
  | cons w ws ih =>
    simp only [setB, List.map_cons, List.zip_cons_cons, List.map_cons] at ih ⊢
    rw [ih]
    congr 1
    by_cases h : w = i
    · subst h; simp
    · have hb : Nat.beq w i = false := by
        cases hq : Nat.beq w i with
        | false => rfl
        | true => exact absurd (Nat.eq_of_beq_eq_true hq) h
      simp [h, hb]

theorem zip_map_mem {ws : List Nat} {X : Nat → Bool} {p : Nat × Bool} (h : p ∈ ws.zip (ws.map X)) : p.2 = X p.1 := by
  induction ws with
  | nil => simp at h
  | cons w ws ih =>
    simp only [List.map_cons, List.zip_cons_cons, List.mem_cons] at h
    rcases h with rfl | h
    · rfl
    · exact ih h

theorem mayB_of {l : List Oper} {ws : List Nat} {i : Nat} {X : Nat → Bool} (hX : X i = false) (hpre : ∀ j, direct l j i = true → X j = true) (hcl : ∀ k, X k = true → ∀ j, direct l j k = true → X j = true) :
    mayB l ws i (ws.map X) = true := by
  simp only [mayB, List.all_eq_true]
  intro p hp
  rw [zip_map_mem hp]
  cases h1 : ahead l p.1 i with
  | true =>
    have h2 := ahead_listed hcl hpre h1
    cases h3 : (Nat.beq p.1 i || ahead l i p.1) with
    | false => simp [h2]
    | true =>
      exfalso
      rcases Bool.or_eq_true _ _ |>.mp h3 with h4 | h4
      · rw [Nat.eq_of_beq_eq_true h4, hX] at h2; cases h2
      · have := ahead_listed hcl (fun k hk => hcl p.1 h2 k hk) h4
        rw [hX] at this; cases this
  | false =>
    cases h3 : (Nat.beq p.1 i || ahead l i p.1) with
    | false => simp
    | true =>
      cases h2 : X p.1 with
      | false => simp
      | true =>
        exfalso
        rcases Bool.or_eq_true _ _ |>.mp h3 with h4 | h4
        · rw [Nat.eq_of_beq_eq_true h4, hX] at h2; cases h2
        · have := ahead_listed hcl (fun k hk => hcl p.1 h2 k hk) h4
          rw [hX] at this; cases this

theorem closeB_of {l : List Oper} {ws : List Nat} {X : Nat → Bool} (hcl : ∀ k, X k = true → ∀ j, direct l j k = true → X j = true) : closeB l ws (ws.map X) = true := by
  simp only [closeB, List.all_eq_true]
  intro p hp q hq
  rw [zip_map_mem hp, zip_map_mem hq]
  cases h1 : (ahead l p.1 q.1 && X q.1) with
  | false => simp
  | true =>
    simp only [Bool.and_eq_true] at h1
    have := ahead_listed hcl (fun k hk => hcl q.1 h1.2 k hk) h1.1
    simp [this]

theorem allowed_of {l : List Oper} {ws : List Nat} {sts : List (List Bool)} {i : Nat} {X : Nat → Bool} (hok : okSts l ws sts = true) (hX : X i = false) (hpre : ∀ j, direct l j i = true → X j = true)
    (hcl : ∀ k, X k = true → ∀ j, direct l j k = true → X j = true) : (stNo sts (ws.map X), stNo sts (ws.map fun j => if j = i then true else X j)) ∈ allowed l ws sts i := by
  simp only [okSts, Bool.and_eq_true, List.all_eq_true] at hok
  have h1 := hok.2 (ws.map X) (by have := mem_allB (ws.map X); rwa [List.length_map] at this)
  rw [closeB_of hcl] at h1
  simp only [Bool.not_true, Bool.false_or, List.any_eq_true] at h1
  obtain ⟨bs, hm, hb⟩ := h1
  have hb' := beqB_iff.1 hb
  subst hb'
  rw [setB_of]
  exact List.mem_map.2 ⟨_, List.mem_filter.2 ⟨hm, mayB_of hX hpre hcl⟩, rfl⟩

theorem DM.spec {l : List Oper} {H : Nat → Hs} {ws : List Nat} {sts : List (List Bool)} {its : List DI} {e0 : Env} (hok : okSts l ws sts = true) : ∀ {n : Nat} {E E' : Env} {os : List Oper} {ds : List DI}, DM P Γ N l H ws sts n E os ds E' →
    os = l.drop n → ds = its.drop n → its.length = l.length → n ≤ l.length → E = envAt l its e0 n →
    E' = envAt l its e0 l.length ∧ ∀ j o d X, n ≤ j → l[j]? = some o → its[j]? = some d → X j = false → (∀ k, direct l k j = true → X k = true) → (∀ k, X k = true → ∀ j, direct l j k = true → X j = true) →
      DStep P Γ N l (envAt l its e0 j) o d.v (H (stNo sts (ws.map X))) (H (stNo sts (ws.map fun k => if k = j then true else X k))) := by
  intro n E E' os ds h
  have same : ∀ (i : Nat) (X : Nat → Bool), ws.contains i = false → ws.map (fun k => if k = i then true else X k) = ws.map X := fun i X hw => by
    refine List.map_congr_left fun w hm => ?_
    have : w ≠ i := fun e => by subst e; rw [List.contains_eq_mem] at hw; simp [hm] at hw
    rw [if_neg this]
  have step : ∀ (i : Nat) (o : Oper) (os : List Oper) (d : DI) (ds : List DI) (E E'' : Env), o :: os = l.drop i → d :: ds = its.drop i → its.length = l.length → E = envAt l its e0 i →
      (∀ X, X i = false → (∀ k, direct l k i = true → X k = true) → (∀ k, X k = true → ∀ j, direct l j k = true → X j = true) →
        DStep P Γ N l (envAt l its e0 i) o d.v (H (stNo sts (ws.map X))) (H (stNo sts (ws.map fun k => if k = i then true else X k)))) →
      (os = l.drop (i + 1) → ds = its.drop (i + 1) → its.length = l.length → i + 1 ≤ l.length → putE o.dst d.v E = envAt l its e0 (i + 1) →
        E'' = envAt l its e0 l.length ∧ ∀ j o d X, i + 1 ≤ j → l[j]? = some o → its[j]? = some d → X j = false → (∀ k, direct l k j = true → X k = true) → (∀ k, X k = true → ∀ j, direct l j k = true → X j = true) →
          DStep P Γ N l (envAt l its e0 j) o d.v (H (stNo sts (ws.map X))) (H (stNo sts (ws.map fun k => if k = j then true else X k)))) →
      E'' = envAt l its e0 l.length ∧ ∀ j o d X, i ≤ j → l[j]? = some o → its[j]? = some d → X j = false → (∀ k, direct l k j = true → X k = true) → (∀ k, X k = true → ∀ j, direct l j k = true → X j = true) →
        DStep P Γ N l (envAt l its e0 j) o d.v (H (stNo sts (ws.map X))) (H (stNo sts (ws.map fun k => if k = j then true else X k))) := by
    intro i o os d ds E E'' ho hd hlen hE hst ih
    have ho2 : l[i]? = some o := by rw [← List.head?_drop, ← ho]; rfl
    have hd2 : its[i]? = some d := by rw [← List.head?_drop, ← hd]; rfl
    have ho3 : os = l.drop (i + 1) := by rw [← List.tail_drop, ← ho]; rfl
    have hd3 : ds = its.drop (i + 1) := by rw [← List.tail_drop, ← hd]; rfl
    have hlt := (List.getElem?_eq_some_iff.1 ho2).1
    obtain ⟨h1, h2⟩ := ih ho3 hd3 hlen (by omega) (by rw [hE]; simp only [envAt, ho2, hd2])
    refine ⟨h1, fun j o' d' X hij hj1 hj2 hx1 hx2 hx3 => ?_⟩
    by_cases hji : j = i
    · subst hji
      rw [ho2] at hj1; cases hj1
      rw [hd2] at hj2; cases hj2
      exact hst X hx1 hx2 hx3
    · exact h2 j o' d' X (by omega) hj1 hj2 hx1 hx2 hx3
  induction h with
  | nil i E =>
    intro ho hd hlen hi hE
    have : i = l.length := by
      have := congrArg List.length ho
      simp at this; omega
    subst this
    refine ⟨hE, fun j o d X hij hj => ?_⟩
    have := (List.getElem?_eq_some_iff.1 hj).1
    omega
  | @pure i E E' o os v ds h hw hg hdd _ ih =>
    intro ho hd hlen hi hE
    refine step _ _ _ _ _ _ _ ho hd hlen hE (fun X _ _ _ => ⟨hdd, ?_⟩) ih
    rw [hg, ← hE, same i X hw]; exact h _
  | @op i E E' o os v ds h hg hdd _ ih =>
    intro ho hd hlen hi hE
    refine step _ _ _ _ _ _ _ ho hd hlen hE (fun X hx1 hx2 hx3 => ⟨hdd, ?_⟩) ih
    rw [hg, ← hE]
    exact h.mem _ (allowed_of hok hx1 hx2 hx3)
  | @gT i E E' o os v ds j dj w b h hnw hg hj hb hw hn hdd _ ih =>
    intro ho hd hlen hi hE
    refine step _ _ _ _ _ _ _ ho hd hlen hE (fun X _ _ _ => ⟨hdd, ?_⟩) ih
    rw [hg, ← hE, same i X hnw]
    exact ⟨_, _, hj, hb, hn, fun _ => h _, fun hc => absurd hw hc⟩
  | @gF i E E' o os ds j dj w b hnw hg hj hb hbw hn hdd _ ih =>
    intro ho hd hlen hi hE
    refine step _ _ _ _ _ _ _ ho hd hlen hE (fun X _ _ _ => ⟨hdd, ?_⟩) ih
    rw [hg, ← hE, same i X hnw]
    exact ⟨_, _, hj, hb, hn, (fun hc => by subst hbw; cases w <;> cases hc), fun _ => ⟨void_junk, rfl⟩⟩

theorem AWp.drawn2G {id : Nat} {E' : Env} {st' : St} (H : Nat → Hs) (ws : List Nat) (sts : List (List Bool)) (hm : P.follows .mixedOrders = true) (h0 : H (stNo sts (ws.map fun _ => false)) = st.s) (h : DM P Γ N l H ws sts 0 st.e l its E')
    (hok : (drawOk l its && okSts l ws sts) = true) (hg : Gh Γ N D pin ⟨E', H (stNo sts (ws.map fun _ => true))⟩ st') (hQ : Q .normal st') : AWp P Γ ro N D pin (.region id l.toArray true) Q st := by
  simp only [Bool.and_eq_true] at hok
  have hlen : its.length = l.length := (drawOk_spec hok.1).len
  obtain ⟨h1, h2⟩ := DM.spec (its := its) (e0 := st.e) hok.2 h rfl rfl hlen (Nat.zero_le _) rfl
  refine AWp.after (AWp.drawM hm (fun X => H (stNo sts (ws.map X))) h0 (fun X Y hXY => ?_) hok.1 (fun i o d X ho hd hx1 hx2 hx3 => h2 i o d X (Nat.zero_le _) ho hd hx1 hx2 hx3) ⟨st', ?_, hQ⟩)
  · have : ws.map X = ws.map Y := List.map_congr_left fun w hw => hXY w (by
      have := hok.2
      simp only [okSts, Bool.and_eq_true, List.all_eq_true] at this
      simpa [Nat.blt_eq] using this.1 w hw)
    show H _ = H _
    rw [this]
  · rw [← h1]; exact hg


/-! Names that are kept for a block to come. -/

theorem dead_no {α : Nat → Option (Nat × Nat)} {S : Nat → Prop} {W : World} {x : Value} (h : VR α S W dead x) : False := by
  unfold dead at h
  cases h with
  | i _ _ h => cases h with
    | vec _ _ _ _ _ _ _ _ hl => simp at hl

theorem HRel.deadNone {Γ α S B s W} (h : HRel Γ α S B s W) {id : Nat} (hm : (id, [dead]) ∈ s.hp) : α id = none := by
  rcases h.blk id _ hm with ⟨b, base, _, _, xs, ty, _, _, hr⟩ | ⟨_, h0⟩
  · exact (dead_no (hr 0 (by simp))).elim
  · exact h0

theorem HRel.fill {Γ α S B s W} (h : HRel Γ α S B s W) {id : Nat} {cs : List V} {b base : Nat} (hm : (id, [dead]) ∈ s.hp) (hb : BlkR α S W cs b base) (hS : ¬ S b) (hlt : b < W.heap.size)
    (hB : ∀ i c q, (i, c) ∈ s.hp → α i = some q → q.1 ≠ b) (hE : ¬ B b) :
    HRel Γ (upd α id b base) S (fun c => B c ∨ c = b) { s with hp := setHp s.hp id cs } W := by
  have h0 := h.deadNone hm
  have hα : Al α (upd α id b base) := fun i q hi => by
    unfold upd; split
    · rename_i e; subst e; rw [h0] at hi; cases hi
    · exact hi
  have hk : Keeps S W W := Keeps.refl S W
  have hkeys : (setHp s.hp id cs).map (·.1) = s.hp.map (·.1) := setHp_keys _ _ _
  have hold : ∀ i q, i ≠ id → upd α id b base i = some q → α i = some q := fun i q hne hi => by simpa [upd, hne] using hi
  have hmem : ∀ i k, (i, k) ∈ s.hp → i ≠ id → (i, k) ∈ setHp s.hp id cs := fun i k hi hne => List.mem_map.2 ⟨(i, k), hi, by simp [hne]⟩
  have hself : (id, cs) ∈ setHp s.hp id cs := List.mem_map.2 ⟨(id, [dead]), hm, by simp⟩
  refine ⟨h.glob, ?_, ?_, by rw [hkeys]; exact h.nodup, ?_, ?_, h.sLt, ?_, ?_, ?_⟩
  · obtain ⟨Bx, h1, h2, h3, h4⟩ := h.ext
    refine ⟨Bx, h1, fun c hc => .inl (h2 c hc), ?_, ?_⟩
    · intro c hc i k q hm' hq
      rcases mem_setHp hm' with ⟨rfl, rfl⟩ | ⟨hne, hm''⟩
      · rw [upd_same] at hq; cases hq
        intro e; simp only at e; subst e; exact hE (h2 _ hc)
      · exact h3 c hc i k q hm'' (hold i q hne hq)
    · rintro c (hc | rfl)
      · rcases h4 c hc with h5 | ⟨i, k, q, h5, h6, h7⟩
        · exact .inl h5
        · have hne : i ≠ id := fun e => by subst e; rw [h0] at h6; cases h6
          exact .inr ⟨i, k, q, hmem i k h5 hne, hα i q h6, h7⟩
      · exact .inr ⟨id, cs, _, hself, upd_same α id c base, rfl⟩
  · intro i k hm'
    rcases mem_setHp hm' with ⟨rfl, rfl⟩ | ⟨hne, hm''⟩
    · exact .inl ⟨b, base, upd_same α i b base, .inr rfl, hb.mono hα (fun _ h => h) hk rfl⟩
    · rcases h.blk i k hm'' with ⟨b', base', h1, h2, h3⟩ | ⟨h1, h2⟩
      · exact .inl ⟨b', base', hα _ _ h1, .inl h2, h3.mono hα (fun _ h => h) hk rfl⟩
      · exact .inr ⟨h1, by simp [upd, hne, h2]⟩
  · intro i j q r hi hj hq hr hqr
    rw [hkeys] at hi hj
    have hfar : ∀ i q, i ∈ s.hp.map (·.1) → α i = some q → q.1 ≠ b := fun i q hm hi => by
      obtain ⟨⟨j, c⟩, hj, he⟩ := List.mem_map.1 hm
      simp only at he; subst he
      exact hB j c q hj hi
    by_cases h1 : i = id <;> by_cases h2 : j = id
    · rw [h1, h2]
    · subst h1; rw [upd_same] at hq; cases hq
      exact absurd hqr.symm (hfar j r hj (hold j r h2 hr))
    · subst h2; rw [upd_same] at hr; cases hr
      exact absurd hqr (hfar i q hi (hold i q h1 hq))
    · exact h.inj i j q r hi hj (hold i q h1 hq) (hold j r h2 hr) hqr
  · rintro c hc (hB' | rfl)
    · exact h.apart c hc hB'
    · exact hS hc
  · rintro c (hc | rfl)
    · exact h.bLt c hc
    · exact hlt
  · intro i q hi
    by_cases h1 : i = id
    · subst h1; exact h.kLt i _ hm
    · exact h.aLt i q (hold i q h1 hi)
  · intro i k hm'
    rcases mem_setHp hm' with ⟨rfl, _⟩ | ⟨_, hm''⟩
    · exact h.kLt _ _ hm
    · exact h.kLt i k hm''

theorem op_allocK {e : Env} {s : Hs} {d : Option Tmp} {ty : TypeId} {pos : String} {af : Array Edge} {g : Option (Nat × Bool)} {t : TypeId} {zs : List V} (id : Nat) (hz : ZeroT P t zs) (hm : s.hp.lookup id = some [dead]) :
    LOp P Γ ⟨d, .alloc t, ty, pos, af, g⟩ e s (EqK (.p id 0) { s with hp := setHp s.hp id zs }) := by
  intro ro m a W α S B next Q he hh hnext
  refine ⟨about_wide, ?_⟩
  rw [Oper.semAt_eq _ _ _ (fun _ h => by cases h)]
  obtain ⟨i, z, hi, hz1, rfl, hlf⟩ := hz
  obtain ⟨hsz, hcr⟩ := cellsV_rel hlf (ofConst_rel α S W z)
  have hmem := mem_of_lookup hm
  have h0 := hh.deadNone hmem
  have hk : Keeps S W (W.alloc (.cells z.cells t)) := keeps_alloc hh.sLt
  have h1 := hh.extend (W' := W.alloc (.cells z.cells t)) (by simp) (fun b hb => heap_alloc_old W _ b hb) (S' := S) (fun _ h => h) (fun _ h => .inl h)
  have hal : Al α (upd α id W.heap.size 0) := fun i q hi => by
    unfold upd; split
    · rename_i e; subst e; rw [h0] at hi; cases hi
    · exact hi
  have hA := h1.fill (id := id) (cs := cellsV (ofConst z)) (b := W.heap.size) (base := 0) hmem ⟨z.cells, t, heap_alloc_new W _, by omega, fun i hi => by rw [Nat.zero_add]; exact (hcr i hi).mono (Al.refl α) (fun _ h => h) hk⟩
    (fun hs => Nat.lt_irrefl _ (hh.sLt _ hs)) (by simp) (fun j c q hj hq e => by
      rcases hh.blk j c hj with ⟨b', base', h2, h3, _⟩ | ⟨_, h2⟩
      · rw [hq] at h2; cases h2
        have := hh.bLt _ h3
        simp only at e; omega
      · rw [hq] at h2; cases h2) (fun hb => Nat.lt_irrefl _ (hh.bLt _ hb))
  simp only [execOp, Instr.alloc, zeroValue, typeInfo, Sem.run_bind, run_program, hi, hz1, Sem.run_pure, Result.andThen_ok, newVar, newRow, run_newObj, World.alloc_eq, Oper.uponIn_value]
  refine hnext _ _ _ _ S _ _ ⟨rfl, rfl⟩ (.p id 0 _ 0 (upd_same α id W.heap.size 0)) hA
    ⟨rfl, rfl, rfl, by simp, fun b hb _ => heap_alloc_old W _ b hb, fun b sh hb => shape_extend (fun b hb => heap_alloc_old W _ b hb) b sh hb, fun _ h => h, fun b hb => ?_, fun _ h => .inl h⟩ hal
  rcases hb with hb | rfl
  · exact .inl hb
  · exact .inr (Nat.le_refl _)

/-- A name is kept. -/
theorem Gh.kept : Gh Γ N D pin st ⟨st.e, { st.s with hp := (st.s.nx, [dead]) :: st.s.hp, nx := st.s.nx + 1 }⟩ := fun α S B a W hs => by
  have h := hs.hp
  have hnone : α st.s.nx = none := by
    cases hc : α st.s.nx with
    | none => rfl
    | some q => exact absurd (h.aLt _ _ hc) (Nat.lt_irrefl _)
  have hkeys : st.s.nx ∉ st.s.hp.map (·.1) := fun hm => by
    obtain ⟨⟨i, c⟩, hi, he⟩ := List.mem_map.1 hm
    have := h.kLt i c hi
    simp only at he; omega
  refine ⟨α, S, B, ⟨hs.size, hs.defers, hs.env, h.glob, ?_, ?_, ?_, ?_, h.apart, h.sLt, h.bLt, fun i q hi => Nat.lt_succ_of_lt (h.aLt i q hi), ?_⟩, Fr.refl S B W, Pin.refl pin α⟩
  · obtain ⟨Bx, h1, h2, h3, h4⟩ := h.ext
    refine ⟨Bx, h1, h2, fun b hb i k q hm hq => ?_, fun b hb => ?_⟩
    · rcases List.mem_cons.1 hm with he | hm
      · cases he; rw [hnone] at hq; cases hq
      · exact h3 b hb i k q hm hq
    · rcases h4 b hb with h5 | ⟨i, k, q, h5, h6⟩
      · exact .inl h5
      · exact .inr ⟨i, k, q, List.mem_cons_of_mem _ h5, h6⟩
  · intro i k hm
    rcases List.mem_cons.1 hm with he | hm
    · cases he; exact .inr ⟨.inr rfl, hnone⟩
    · exact h.blk i k hm
  · simp only [List.map_cons, List.nodup_cons]; exact ⟨hkeys, h.nodup⟩
  · intro i j q r hi hj hq hr hqr
    simp only [List.map_cons, List.mem_cons] at hi hj
    rcases hi with rfl | hi
    · rw [hnone] at hq; cases hq
    · rcases hj with rfl | hj
      · rw [hnone] at hr; cases hr
      · exact h.inj i j q r hi hj hq hr hqr
  · intro i k hm
    rcases List.mem_cons.1 hm with he | hm
    · cases he; exact Nat.lt_succ_self _
    · exact Nat.lt_succ_of_lt (h.kLt i k hm)


theorem DS.heapS {l : List Oper} {H : Nat → Hs} {r : Nat} {rk : Nat} {E E' : Env} {o : Oper} {os : List Oper} {v : V} {ds : List DI} (lo : Nat) (h : AllS ((List.range (r + 1 - lo)).map (lo + ·)) (fun k => LOp P Γ o (restr (readsOf o) E) (H k) (EqK v (H k))))
    (hg : o.guard = none) (hd : dOk o.dst N = true) (hs : DS P Γ N l H r rk (putE o.dst v E) os ds E') : DS P Γ N l H r rk E (o :: os) (⟨v, false, lo⟩ :: ds) E' :=
  .heap lo (fun k h1 h2 => h.mem k (List.mem_map.2 ⟨k - lo, List.mem_range.2 (by omega), by omega⟩)) hg hd hs

end
end Go.Ab
