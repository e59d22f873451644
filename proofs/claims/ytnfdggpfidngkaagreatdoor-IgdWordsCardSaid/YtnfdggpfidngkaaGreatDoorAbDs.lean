/-
  The layer Ab, part 12: a drawn region, operation by operation; small ghost steps.
-/
import Derived.Test.YtnfdggpfidngkaaGreatDoorAbDraw
namespace Go.Ab

section
variable {P : Program} {Γ : Glob} {ro : Option Nat} {N : Nat} {D : List Deferred} {pin : Nat} {Q : Exit → St → Prop} {st : St}

/-- The operations of a drawn region in the text's order: 'H' are the memories that it goes through, r of them behind the first. -/
inductive DS (P : Program) (Γ : Glob) (N : Nat) (l : List Oper) (H : Nat → Hs) (r : Nat) : Nat → Env → List Oper → List DI → Env → Prop
  | nil (rk : Nat) (E : Env) : DS P Γ N l H r rk E [] [] E
  | pure {rk : Nat} {E E' : Env} {o : Oper} {os : List Oper} {v : V} {ds : List DI} (h : ∀ s, LOp P Γ o (restr (readsOf o) E) s (EqK v s)) (hg : o.guard = none) (hd : dOk o.dst N = true)
      (hs : DS P Γ N l H r rk (putE o.dst v E) os ds E') : DS P Γ N l H r rk E (o :: os) (⟨v, false, 0⟩ :: ds) E'
  | heap {rk : Nat} {E E' : Env} {o : Oper} {os : List Oper} {v : V} {ds : List DI} (lo : Nat) (h : ∀ k, lo ≤ k → k ≤ r → LOp P Γ o (restr (readsOf o) E) (H k) (EqK v (H k))) (hg : o.guard = none) (hd : dOk o.dst N = true)
      (hs : DS P Γ N l H r rk (putE o.dst v E) os ds E') : DS P Γ N l H r rk E (o :: os) (⟨v, false, lo⟩ :: ds) E'
  | wr {rk : Nat} {E E' : Env} {o : Oper} {os : List Oper} {v : V} {ds : List DI} (h : LOp P Γ o (restr (readsOf o) E) (H rk) (EqK v (H (rk + 1)))) (hg : o.guard = none) (hd : dOk o.dst N = true)
      (hs : DS P Γ N l H r (rk + 1) (putE o.dst v E) os ds E') : DS P Γ N l H r rk E (o :: os) (⟨v, true, 0⟩ :: ds) E'
  | gT {rk : Nat} {E E' : Env} {o : Oper} {os : List Oper} {v : V} {ds : List DI} {j dj : Nat} {w : Bool} (h : ∀ s, LOp P Γ o (restr (readsOf o) E) s (EqK v s)) (hg : o.guard = some (j, w))
      (hj : (l[j]?).bind (·.dst) = some dj) (hb : E.lookup dj = some (.i (.bool w))) (hn : Nat.blt dj N = true) (hd : dOk o.dst N = true)
      (hs : DS P Γ N l H r rk (putE o.dst v E) os ds E') : DS P Γ N l H r rk E (o :: os) (⟨v, false, 0⟩ :: ds) E'
  | gF {rk : Nat} {E E' : Env} {o : Oper} {os : List Oper} {ds : List DI} {j dj : Nat} {w b : Bool} (hg : o.guard = some (j, w))
      (hj : (l[j]?).bind (·.dst) = some dj) (hb : E.lookup dj = some (.i (.bool b))) (hbw : b = !w) (hn : Nat.blt dj N = true) (hd : dOk o.dst N = true)
      (hs : DS P Γ N l H r rk (putE o.dst .junk E) os ds E') : DS P Γ N l H r rk E (o :: os) (⟨.junk, false, 0⟩ :: ds) E'
  | gC {rk : Nat} {E E' : Env} {o : Oper} {os : List Oper} {v : V} {ds : List DI} {j dj : Nat} {w b : Bool} (h : b = w → ∀ s, LOp P Γ o (restr (readsOf o) E) s (EqK v s)) (hg : o.guard = some (j, w))
      (hj : (l[j]?).bind (·.dst) = some dj) (hb : E.lookup dj = some (.i (.bool b))) (hn : Nat.blt dj N = true) (hd : dOk o.dst N = true)
      (hs : DS P Γ N l H r rk (putE o.dst (.cond (b == w) v) E) os ds E') : DS P Γ N l H r rk E (o :: os) (⟨.cond (b == w) v, false, 0⟩ :: ds) E'
  | gCh {rk : Nat} {E E' : Env} {o : Oper} {os : List Oper} {v : V} {ds : List DI} {j dj : Nat} {w b : Bool} (lo : Nat) (h : b = w → ∀ k, lo ≤ k → k ≤ r → LOp P Γ o (restr (readsOf o) E) (H k) (EqK v (H k))) (hg : o.guard = some (j, w))
      (hj : (l[j]?).bind (·.dst) = some dj) (hb : E.lookup dj = some (.i (.bool b))) (hn : Nat.blt dj N = true) (hd : dOk o.dst N = true)
      (hs : DS P Γ N l H r rk (putE o.dst (.cond (b == w) v) E) os ds E') : DS P Γ N l H r rk E (o :: os) (⟨.cond (b == w) v, false, lo⟩ :: ds) E'

theorem LOp.condK {o : Oper} {e : Env} {s s' : Hs} {v : V} {c : Bool} (h : LOp P Γ o e s (EqK v s')) : LOp P Γ o e s (EqK (.cond c v) s') :=
  fun ro m a W α S B next Q he hh hn => h ro m a W α S B next Q he hh fun _ _ x α' S' B' W' hk hv hh' hf hal => by
    obtain ⟨rfl, rfl⟩ := hk
    exact hn _ _ x α' S' B' W' ⟨rfl, rfl⟩ (.cond _ _ _ fun _ => hv) hh' hf hal

theorem void_junk : Void .junk := fun _ _ _ _ => .junk _
theorem void_cond {b w : Bool} {v : V} (h : b ≠ w) : Void (.cond (b == w) v) := fun _ _ _ _ => .cond _ _ _ fun hc => absurd (by simpa using hc) h

theorem DS.spec {l : List Oper} {H : Nat → Hs} {r : Nat} {its : List DI} {e0 : Env} : ∀ {rk : Nat} {E E' : Env} {os : List Oper} {ds : List DI}, DS P Γ N l H r rk E os ds E' →
    ∀ i, os = l.drop i → ds = its.drop i → its.length = l.length → i ≤ l.length → E = envAt l its e0 i → rk = rank its i → r = rank its l.length →
    E' = envAt l its e0 l.length ∧ ∀ j o d k, i ≤ j → l[j]? = some o → its[j]? = some d → HAt its (rank its l.length) j d k → DStep P Γ N l (envAt l its e0 j) o d.v (H k) (H (if d.wr then k + 1 else k)) := by
  intro rk E E' os ds h
  have step : ∀ (i : Nat) (o : Oper) (os : List Oper) (d : DI) (ds : List DI) (E E'' : Env) (rk rk' : Nat), o :: os = l.drop i → d :: ds = its.drop i → its.length = l.length → E = envAt l its e0 i → rk = rank its i → r = rank its l.length →
      (∀ k, HAt its (rank its l.length) i d k → DStep P Γ N l (envAt l its e0 i) o d.v (H k) (H (if d.wr then k + 1 else k))) → rk' = (if d.wr then rk + 1 else rk) →
      (∀ i', os = l.drop i' → ds = its.drop i' → its.length = l.length → i' ≤ l.length → putE o.dst d.v E = envAt l its e0 i' → rk' = rank its i' → r = rank its l.length →
        E'' = envAt l its e0 l.length ∧ ∀ j o d k, i' ≤ j → l[j]? = some o → its[j]? = some d → HAt its (rank its l.length) j d k → DStep P Γ N l (envAt l its e0 j) o d.v (H k) (H (if d.wr then k + 1 else k))) →
      E'' = envAt l its e0 l.length ∧ ∀ j o d k, i ≤ j → l[j]? = some o → its[j]? = some d → HAt its (rank its l.length) j d k → DStep P Γ N l (envAt l its e0 j) o d.v (H k) (H (if d.wr then k + 1 else k)) := by
    intro i o os d ds E E'' rk rk' ho hd hlen hE hrk hr hst hrk' ih
    have ho2 : l[i]? = some o := by rw [← List.head?_drop, ← ho]; rfl
    have hd2 : its[i]? = some d := by rw [← List.head?_drop, ← hd]; rfl
    have ho3 : os = l.drop (i + 1) := by rw [← List.tail_drop, ← ho]; rfl
    have hd3 : ds = its.drop (i + 1) := by rw [← List.tail_drop, ← hd]; rfl
    have hlt := (List.getElem?_eq_some_iff.1 ho2).1
    obtain ⟨h1, h2⟩ := ih (i + 1) ho3 hd3 hlen (by omega) (by rw [hE]; simp only [envAt, ho2, hd2]) (by
      have hw : wrOf its i = d.wr := by simp [wrOf, hd2]
      rw [hrk', hrk]; simp only [rank, hw]; split <;> rfl) hr
    refine ⟨h1, fun j o' d' k hij hj1 hj2 hk => ?_⟩
    by_cases hji : j = i
    · subst hji
      rw [ho2] at hj1; cases hj1
      rw [hd2] at hj2; cases hj2
      exact hst k hk
    · exact h2 j o' d' k (by omega) hj1 hj2 hk
  induction h with
  | nil rk E =>
    intro i ho hd hlen hi hE _ _
    have : i = l.length := by
      have := congrArg List.length ho
      simp at this; omega
    subst this
    refine ⟨hE, fun j o d k hij hj => ?_⟩
    have := (List.getElem?_eq_some_iff.1 hj).1
    omega
  | pure h hg hdd _ ih =>
    intro i ho hd hlen hi hE hrk hr
    refine step i _ _ _ _ _ _ _ _ ho hd hlen hE hrk hr (fun k _ => ⟨hdd, ?_⟩) rfl ih
    rw [hg, ← hE]; exact h _
  | heap lo h hg hdd _ ih =>
    intro i ho hd hlen hi hE hrk hr
    refine step i _ _ _ _ _ _ _ _ ho hd hlen hE hrk hr (fun k hk => ⟨hdd, ?_⟩) rfl ih
    rw [hg, ← hE]
    simp only [HAt, Bool.false_eq_true, if_false] at hk
    exact h k hk.1 (by rw [hr]; exact hk.2)
  | wr h hg hdd _ ih =>
    intro i ho hd hlen hi hE hrk hr
    refine step i _ _ _ _ _ _ _ _ ho hd hlen hE hrk hr (fun k hk => ⟨hdd, ?_⟩) rfl ih
    rw [hg, ← hE]
    simp only [HAt, if_true] at hk
    subst hk
    rw [← hrk]
    exact h
  | gT h hg hj hb hn hdd _ ih =>
    intro i ho hd hlen hi hE hrk hr
    refine step i _ _ _ _ _ _ _ _ ho hd hlen hE hrk hr (fun k _ => ⟨hdd, ?_⟩) rfl ih
    rw [hg, ← hE]
    exact ⟨_, _, hj, hb, hn, fun _ => h _, fun hc => absurd rfl hc⟩
  | @gF rk E E' o os ds j dj w b hg hj hb hbw hn hdd _ ih =>
    intro i ho hd hlen hi hE hrk hr
    refine step i _ _ _ _ _ _ _ _ ho hd hlen hE hrk hr (fun k _ => ⟨hdd, ?_⟩) rfl ih
    rw [hg, ← hE]
    exact ⟨_, _, hj, hb, hn, (fun hc => by subst hbw; cases w <;> cases hc), fun _ => ⟨void_junk, rfl⟩⟩
  | gC h hg hj hb hn hdd _ ih =>
    intro i ho hd hlen hi hE hrk hr
    refine step i _ _ _ _ _ _ _ _ ho hd hlen hE hrk hr (fun k _ => ⟨hdd, ?_⟩) rfl ih
    rw [hg, ← hE]
    exact ⟨_, _, hj, hb, hn, fun hc => (h hc _).condK, fun hc => ⟨void_cond hc, rfl⟩⟩
  | gCh lo h hg hj hb hn hdd _ ih =>
    intro i ho hd hlen hi hE hrk hr
    refine step i _ _ _ _ _ _ _ _ ho hd hlen hE hrk hr (fun k hk => ⟨hdd, ?_⟩) rfl ih
    rw [hg, ← hE]
    simp only [HAt, Bool.false_eq_true, if_false] at hk
    exact ⟨_, _, hj, hb, hn, fun hc => (h hc k hk.1 (by rw [hr]; exact hk.2)).condK, fun hc => ⟨void_cond hc, rfl⟩⟩

theorem AWp.drawn {id : Nat} {l : List Oper} {its : List DI} {E' : Env} (H : Nat → Hs) (r : Nat) (hm : P.follows .mixedOrders = true) (h0 : H 0 = st.s) (h : DS P Γ N l H r 0 st.e l its E')
    (hok : (drawOk l its && Nat.beq (rank its l.length) r) = true) (hQ : Q .normal ⟨E', H r⟩) : AWp P Γ ro N D pin (.region id l.toArray true) Q st := by
  simp only [Bool.and_eq_true] at hok
  obtain ⟨h1, h2⟩ := hok
  have hr : r = rank its l.length := (Nat.eq_of_beq_eq_true h2).symm
  have hlen := (drawOk_spec h1).len
  obtain ⟨h3, h4⟩ := h.spec (its := its) (e0 := st.e) 0 rfl rfl hlen (Nat.zero_le _) rfl rfl hr
  refine AWp.draw hm H h0 h1 (fun i o d k => h4 i o d k (Nat.zero_le _)) ?_
  rw [← h3, ← hr]; exact hQ

/-- For 'heap': so many memories. -/
theorem upto0 {Q : Nat → Prop} (h0 : Q 0) : ∀ k, 0 ≤ k → k ≤ 0 → Q k := fun k _ h => by
  obtain rfl : k = 0 := by omega
  exact h0
theorem upto1 {Q : Nat → Prop} (h0 : Q 0) (h1 : Q 1) : ∀ k, 0 ≤ k → k ≤ 1 → Q k := fun k _ h => by
  rcases (by omega : k = 0 ∨ k = 1) with rfl | rfl <;> assumption
theorem upto2 {Q : Nat → Prop} (h0 : Q 0) (h1 : Q 1) (h2 : Q 2) : ∀ k, 0 ≤ k → k ≤ 2 → Q k := fun k _ h => by
  rcases (by omega : k = 0 ∨ k = 1 ∨ k = 2) with rfl | rfl | rfl <;> assumption
theorem upto3 {Q : Nat → Prop} (h0 : Q 0) (h1 : Q 1) (h2 : Q 2) (h3 : Q 3) : ∀ k, 0 ≤ k → k ≤ 3 → Q k := fun k _ h => by
  rcases (by omega : k = 0 ∨ k = 1 ∨ k = 2 ∨ k = 3) with rfl | rfl | rfl | rfl <;> assumption
theorem from11 {Q : Nat → Prop} (h1 : Q 1) : ∀ k, 1 ≤ k → k ≤ 1 → Q k := fun k _ h => by
  obtain rfl : k = 1 := by omega
  exact h1
theorem from12 {Q : Nat → Prop} (h1 : Q 1) (h2 : Q 2) : ∀ k, 1 ≤ k → k ≤ 2 → Q k := fun k _ h => by
  rcases (by omega : k = 1 ∨ k = 2) with rfl | rfl <;> assumption
theorem from22 {Q : Nat → Prop} (h2 : Q 2) : ∀ k, 2 ≤ k → k ≤ 2 → Q k := fun k _ h => by
  obtain rfl : k = 2 := by omega
  exact h2
theorem from13 {Q : Nat → Prop} (h1 : Q 1) (h2 : Q 2) (h3 : Q 3) : ∀ k, 1 ≤ k → k ≤ 3 → Q k := fun k _ h => by
  rcases (by omega : k = 1 ∨ k = 2 ∨ k = 3) with rfl | rfl | rfl <;> assumption
theorem from23 {Q : Nat → Prop} (h2 : Q 2) (h3 : Q 3) : ∀ k, 2 ≤ k → k ≤ 3 → Q k := fun k _ h => by
  rcases (by omega : k = 2 ∨ k = 3) with rfl | rfl <;> assumption
theorem from33 {Q : Nat → Prop} (h3 : Q 3) : ∀ k, 3 ≤ k → k ≤ 3 → Q k := fun k _ h => by
  obtain rfl : k = 3 := by omega
  exact h3

/-! ### Nil slices, seen otherwise -/

theorem env_re {α α' : Nat → Option (Nat × Nat)} {S : Nat → Prop} {W : World} {e : Env} {a : Act} {t : Nat} {v : V} (he : EnvR α S W e a.tmps) (hal : Al α α') (hv : VR α' S W v (a.tmps.getD t undef)) :
    EnvR α' S W ((t, v) :: e) a.tmps := fun t' v' ht => by
  simp only [List.lookup_cons] at ht
  by_cases hi : t' = t
  · subst hi; simp at ht; subst ht; exact hv
  · have hb : (t' == t) = false := by simp [hi]
    rw [hb] at ht
    exact (he t' v' ht).mono hal (fun _ h => h) (Keeps.refl S W)

/-- A nil slice is an empty one of one's own. -/
theorem Gh.nilSl (k : Nat) {t : Nat} (hl : st.e.lookup t = some (.i (.val (.slice none 0 0)))) : Gh Γ N D pin st ⟨(t, .sl st.s.nx 0 0 k) :: st.e, { st.s with hp := (st.s.nx, []) :: st.s.hp, nx := st.s.nx + 1 }⟩ := fun α S B a W hs => by
  have h := (hs.env t _ hl).val_inv
  exact ⟨α, S, B, ⟨hs.size, hs.defers, env_re hs.env (Al.refl α) (by rw [h]; exact .slnil _ _ _), hs.hp.nameNone⟩, Fr.refl S B W, Pin.refl pin α⟩

/-- A nil slice is an empty read-only one. -/
theorem Gh.nilVec (k : Nat) {t : Nat} (hl : st.e.lookup t = some (.i (.val (.slice none 0 0)))) : Gh Γ N D pin st ⟨(t, .i (.vec [] 0 k)) :: st.e, st.s⟩ := fun α S B a W hs => by
  have h := (hs.env t _ hl).val_inv
  exact ⟨α, S, B, ⟨hs.size, hs.defers, env_re hs.env (Al.refl α) (by rw [h]; exact .i _ _ (.nil _)), hs.hp⟩, Fr.refl S B W, Pin.refl pin α⟩

end
end Go.Ab
