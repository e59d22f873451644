/-
  The layer Ab, part 18: 'a == b' of structs, cell by cell.
-/
import Derived.Test.YtnfdggpfidngkaaGreatDoorAbDraw2
namespace Go.Ab

def fieldsEq (P : Program) (eq : TypeId → List I → List I → Option Bool) (is js : List I) : List Field → Option Bool
  | [] => some true
  | f :: fs =>
    bif f.name == "_" then fieldsEq P eq is js fs else
    match P.info? f.type with
    | none => none
    | some i =>
      bif Nat.ble (f.offset + i.size) is.length && Nat.ble (f.offset + i.size) js.length && (leafB P f.type || aggB P f.type i.size) then
        match eq f.type ((is.drop f.offset).take i.size) ((js.drop f.offset).take i.size), fieldsEq P eq is js fs with
        | some a, some b => some (a && b)
        | _, _ => none
      else none

def eqL (P : Program) : Nat → TypeId → List I → List I → Option Bool
  | 0, _, _, _ => none
  | d + 1, t, is, js =>
    match P.underlying t with
    | some (.int _) => match is, js with
      | [.int k a], [.int k' b] => bif decide (k = k') then some (decide (a = b)) else none
      | _, _ => none
    | some .string => match is, js with
      | [.str a], [.str b] => some (decide (a = b))
      | _, _ => none
    | some .bool => match is, js with
      | [.bool a], [.bool b] => some (a == b)
      | _, _ => none
    | some (.struct fs) => bif P.stoodInHeld t then none else fieldsEq P (eqL P d) is js fs.toList
    | _ => none

/-- What cells stand for as one value. -/
def ValI (S : Nat → Prop) (W : World) (P : Program) (t : TypeId) (is : List I) (x : Value) : Prop :=
  (∃ i, is = [i] ∧ IR S W i x ∧ leafB P t = true) ∨ (∃ xs, x = .agg xs ∧ xs.size = is.length ∧ (∀ i (h : i < is.length), IR S W is[i] (xs.getD i undef)) ∧ aggB P t is.length = true)

theorem run_part_leaf {P : Program} {t : TypeId} (ht : Leaf P t) {xs : Array Value} {off : Nat} (h : off < xs.size) (W : World) : (part t xs off).run P W = .ok (xs.getD off undef) W := by
  obtain ⟨d, i, hu, hd, hi, hs⟩ := ht
  have hg : xs.getD off undef = xs[off] := by simp [Array.getD, h]
  rw [hg]
  simp [part, run_isAgg hu, hd, h]
theorem run_part_agg {P : Program} {t : TypeId} {n : Nat} (ht : AggT P t n) {xs : Array Value} {off : Nat} (W : World) : (part t xs off).run P W = .ok (.agg (xs.extract off (off + n))) W := by
  obtain ⟨d, i, hu, hd, hi, hs⟩ := ht
  simp [part, run_isAgg hu, hd, sizeOf, typeInfo, hi, hs]

theorem part_val {S : Nat → Prop} {W : World} {P : Program} {t : TypeId} {is : List I} {xs : Array Value} {off n : Nat} {i : TypeInfo} (hi : P.info? t = some i) (hn : i.size = n) (hl : off + n ≤ is.length) (hs : xs.size = is.length)
    (hr : ∀ i (h : i < is.length), IR S W is[i] (xs.getD i undef)) (hk : (leafB P t || aggB P t n) = true) : ∃ x, (part t xs off).run P W = .ok x W ∧ ValI S W P t ((is.drop off).take n) x := by
  rcases Bool.or_eq_true _ _ |>.mp hk with hk' | hk'
  · have hL := Leaf.of hk'
    obtain ⟨d, i2, hu, hd, hi2, hs1⟩ := hL
    rw [hi] at hi2; cases hi2
    have hn1 : n = 1 := by omega
    subst hn1
    refine ⟨_, run_part_leaf (Leaf.of hk') (by omega) W, .inl ⟨is[off]'(by omega), ?_, hr off (by omega), hk'⟩⟩
    rw [List.drop_eq_getElem_cons (by omega), List.take_succ_cons, List.take_zero]
  · have hA := AggT.of hk'
    refine ⟨_, run_part_agg hA W, .inr ⟨_, rfl, by simp; omega, fun j hj => ?_, by rw [show ((is.drop off).take n).length = n by simp; omega]; exact hk'⟩⟩
    have hj' : j < n := by simp at hj; omega
    have h3 := hr (off + j) (by omega)
    have hg : (xs.extract off (off + n)).getD j undef = xs.getD (off + j) undef := by
      have h4 : off + j < xs.size := by omega
      have h5 : j < min (off + n) xs.size - off := by omega
      simp only [Array.getD, Array.size_extract, dif_pos h5, dif_pos h4]
      simp
    rw [hg]
    simpa using h3

theorem leaf_not_struct {P : Program} {t : TypeId} {d : TypeDesc} (hu : P.underlying t = some d) (hd : aggD d = true) : leafB P t = false := by
  unfold leafB; rw [hu]
  cases P.info? t <;> simp [hd]

theorem not_agg {P : Program} {t : TypeId} {d : TypeDesc} {n : Nat} (hu : P.underlying t = some d) (hd : aggD d = false) : aggB P t n = false := by
  unfold aggB; rw [hu]
  cases P.info? t <;> simp [hd]

theorem beq_toList (a b : Str) : ((⟨a.toArray⟩ : ByteArray).toList == (⟨b.toArray⟩ : ByteArray).toList) = decide (a = b) := by
  rw [ByteArray.toList_eq, ByteArray.toList_eq, Bool.eq_iff_iff]
  simp

theorem eqL_run (P : Program) : ∀ (d : Nat) (t : TypeId) (is js : List I) (b : Bool), eqL P d t is js = some b → ∀ (S : Nat → Prop) (W : World) (x y : Value), ValI S W P t is x → ValI S W P t js y →
    ∀ m, (Op.equalIn (d + m) t x y).run P W = .ok b W := by
  intro d
  induction d with
  | zero => intro t is js b h; cases h
  | succ d ih =>
    intro t is js b h S W x y hx hy m
    rw [show d + 1 + m = (d + m) + 1 by omega]
    unfold eqL at h
    split at h
    · rename_i kk hu
      split at h
      · rename_i k1 a1 k2 b1
        cases hk : decide (k1 = k2) with
        | false => rw [hk] at h; cases h
        | true =>
        have hk' := of_decide_eq_true hk; subst hk'
        rw [hk] at h; simp only [cond_true, Option.some.injEq] at h; subst h
        rcases hx with ⟨i, h1, h2, _⟩ | ⟨_, _, _, _, h4⟩
        · cases h1; cases h2
          rcases hy with ⟨i, h1, h2, _⟩ | ⟨_, _, _, _, h4⟩
          · cases h1; cases h2
            rw [run_equalIn_int W (d + m) t _ kk _ _ hu]; rfl
          · rw [not_agg hu rfl] at h4; cases h4
        · rw [not_agg hu rfl] at h4; cases h4
      · cases h
    · rename_i hu
      split at h
      · simp only [Option.some.injEq] at h; subst h
        rcases hx with ⟨i, h1, h2, _⟩ | ⟨_, _, _, _, h4⟩
        · cases h1; cases h2
          rcases hy with ⟨i, h1, h2, _⟩ | ⟨_, _, _, _, h4⟩
          · cases h1; cases h2
            rw [run_equalIn_string W (d + m) t _ _ hu, beq_toList]
          · rw [not_agg hu rfl] at h4; cases h4
        · rw [not_agg hu rfl] at h4; cases h4
      · cases h
    · rename_i hu
      split at h
      · simp only [Option.some.injEq] at h; subst h
        rcases hx with ⟨i, h1, h2, _⟩ | ⟨_, _, _, _, h4⟩
        · cases h1; cases h2
          rcases hy with ⟨i, h1, h2, _⟩ | ⟨_, _, _, _, h4⟩
          · cases h1; cases h2
            rw [run_equalIn_bool' W (d + m) t _ _ hu]
          · rw [not_agg hu rfl] at h4; cases h4
        · rw [not_agg hu rfl] at h4; cases h4
      · cases h
    · rename_i fs hu
      cases hst : P.stoodInHeld t with
      | true => rw [hst] at h; cases h
      | false =>
        rw [hst] at h; simp only [cond_false] at h
        have hfo : P.fieldsOf t = fs := by simp [Program.fieldsOf, hu]
        have hnl := leaf_not_struct hu (d := .struct fs) rfl
        rcases hx with ⟨_, _, _, hc⟩ | ⟨xs, rfl, hxl, hxr, _⟩
        · rw [hnl] at hc; cases hc
        rcases hy with ⟨_, _, _, hc⟩ | ⟨ys, rfl, hyl, hyr, _⟩
        · rw [hnl] at hc; cases hc
        rw [run_equalIn_struct W (d + m) t xs ys (by rw [hfo]; exact hu) hst, hfo]
        clear hfo hu hst hnl
        generalize fs.toList = l at h
        induction l generalizing b with
        | nil => simp only [fieldsEq, Option.some.injEq] at h; subst h; simp [Op.eqFields]
        | cons f l ihl =>
          unfold fieldsEq at h
          unfold Op.eqFields
          cases hn : (f.name == "_") with
          | true =>
            rw [hn] at h; simp only [cond_true] at h
            rw [if_neg (by simpa using hn)]
            exact ihl b h
          | false =>
            rw [hn] at h; simp only [cond_false] at h
            rw [if_pos (by simpa using hn)]
            split at h
            · cases h
            · rename_i i hi
              cases hc : (Nat.ble (f.offset + i.size) is.length && Nat.ble (f.offset + i.size) js.length && (leafB P f.type || aggB P f.type i.size)) with
              | false => rw [hc] at h; cases h
              | true =>
                rw [hc] at h; simp only [cond_true] at h
                simp only [Bool.and_eq_true] at hc
                split at h
                · rename_i a c ha hb
                  simp only [Option.some.injEq] at h; subst h
                  obtain ⟨u, hu1, hu2⟩ := part_val (S := S) (W := W) hi rfl (Nat.le_of_ble_eq_true hc.1.1) hxl hxr hc.2
                  obtain ⟨v, hv1, hv2⟩ := part_val (S := S) (W := W) hi rfl (Nat.le_of_ble_eq_true hc.1.2) hyl hyr hc.2
                  have hr := ih f.type _ _ a ha S W u v hu2 hv2 m
                  have hrest := ihl c hb
                  simp only [Sem.run_bind, hu1, hv1, hr, Result.andThen_ok]
                  cases a
                  · simp
                  · simp [hrest]
                · cases h
    · cases h

section
variable {P : Program} {Γ : Glob} {e : Env} {s : Hs} {d : Option Tmp} {ty : TypeId} {pos : String} {af : Array Edge} {g : Option (Nat × Bool)}

theorem agg_valI {α : Nat → Option (Nat × Nat)} {S : Nat → Prop} {W : World} {t : TypeId} {is : List I} {x : Value} (h : VR α S W (.agg (is.map V.i)) x) (ha : aggB P t is.length = true) : ValI S W P t is x := by
  cases h with
  | agg _ xs hl hr =>
    refine .inr ⟨xs, rfl, by simpa using hl, fun i hi => ?_, ha⟩
    have := hr i (by simpa using hi)
    simp only [List.getElem_map] at this
    cases this with | i _ _ h => exact h

theorem op_eql_agg2 {t t2 : TypeId} {D : Nat} {x y : Operand} (is js : List I) {b : Bool} (hm : Nat.ble D 10000 = true) (hg0 : P.eqGuardType P.depth t = false) (ha : aggB P t is.length = true) (hb : aggB P t js.length = true)
    (hx : evalE Γ e x = some (.agg (is.map V.i))) (hy : evalE Γ e y = some (.agg (js.map V.i))) (h : eqL P D t is js = some b) :
    LOp P Γ ⟨d, .binOp .eql t x y t2, ty, pos, af, g⟩ e s (EqK (.i (.bool b)) s) :=
  LOp.value (fun _ h => by cases h) fun ac W α S B he hh => by
    have h1 := evalE_rel he hh.glob hx
    have h2 := evalE_rel he hh.glob hy
    have hr := eqL_run P D t is js b h S W _ _ (agg_valI h1 ha) (agg_valI h2 hb) (10000 - D)
    have hd : D + (10000 - D) = 10000 := by have := Nat.le_of_ble_eq_true hm; omega
    rw [hd] at hr
    refine ⟨.bool b, ?_, .i _ _ (.bool _)⟩
    generalize hax : ac.eval x = u at h1 hr
    generalize hay : ac.eval y = v at h2 hr
    cases h1 with
    | agg _ xs _ _ => cases h2 with
      | agg _ ys _ _ => simp only [execOp, hax, hay, Sem.run_bind, run_eqGuard_agg W .eql t x y _ _ hg0, Result.andThen_ok, run_eql_struct, hr, Sem.run_pure]

theorem op_neq_agg2 {t t2 : TypeId} {D : Nat} {x y : Operand} (is js : List I) {b : Bool} (hm : Nat.ble D 10000 = true) (hg0 : P.eqGuardType P.depth t = false) (ha : aggB P t is.length = true) (hb : aggB P t js.length = true)
    (hx : evalE Γ e x = some (.agg (is.map V.i))) (hy : evalE Γ e y = some (.agg (js.map V.i))) (h : eqL P D t is js = some b) :
    LOp P Γ ⟨d, .binOp .neq t x y t2, ty, pos, af, g⟩ e s (EqK (.i (.bool (!b))) s) :=
  LOp.value (fun _ h => by cases h) fun ac W α S B he hh => by
    have h1 := evalE_rel he hh.glob hx
    have h2 := evalE_rel he hh.glob hy
    have hr := eqL_run P D t is js b h S W _ _ (agg_valI h1 ha) (agg_valI h2 hb) (10000 - D)
    have hd : D + (10000 - D) = 10000 := by have := Nat.le_of_ble_eq_true hm; omega
    rw [hd] at hr
    refine ⟨.bool (!b), ?_, .i _ _ (.bool _)⟩
    generalize hax : ac.eval x = u at h1 hr
    generalize hay : ac.eval y = v at h2 hr
    cases h1 with
    | agg _ xs _ _ => cases h2 with
      | agg _ ys _ _ => simp only [execOp, hax, hay, Sem.run_bind, run_eqGuard_agg W .neq t x y _ _ hg0, Result.andThen_ok, run_neq_struct, hr, Sem.run_pure]
end
end Go.Ab
