/-
  The layer Ab, part 19: from a function that only computes to a call of the program, in any world.
-/
import Derived.Test.YtnfdggpfidngkaaGreatDoorAbEq2
import Derived.WalkKit
import Derived.ChangeSame
import Derived.ProofKit
import Derived.OpenShut
namespace Go.Ab
open Go.ChangeShapes Go.WideShapes Go.ChangeAt Go.RowKit

/-- All that is there is read-only. -/
theorem hrel_all {Γ : Glob} (W : World) (hg : GlobR Γ (fun b => b < W.heap.size) W) : HRel Γ (fun _ => none) (fun b => b < W.heap.size) (fun _ => False) s0 W where
  glob := hg
  ext := ⟨fun _ => False, fun _ h => h, fun _ h => h, fun _ h => h.elim, fun _ h => h.elim⟩
  blk := fun _ _ h => by cases h
  nodup := by simp
  inj := fun _ _ _ _ h => by simp at h
  apart := fun _ _ h => h
  sLt := fun _ h => h
  bLt := fun _ h => h.elim
  aLt := fun _ _ h => by cases h
  kLt := fun _ _ h => by cases h

/-- What was there is as it was. -/
structure Same (W W' : World) : Prop where
  os : W'.os = W.os
  output : W'.output = W.output
  size : W.heap.size ≤ W'.heap.size
  heap : ∀ b, b < W.heap.size → W'.heap[b]? = W.heap[b]?

theorem Same.kept {W W' : World} (h : Same W W') (may : MemPlace → Prop) : W.keptBut W' may := by
  refine ⟨h.os, h.output, fun i hi => ?_⟩
  rw [h.heap i hi]
  generalize W.heap[i]? = o
  cases o with
  | none => rfl
  | some o => cases o with
    | cells c t fr => exact ⟨rfl, rfl, rfl, fun _ _ => rfl⟩
    | map es clock => exact .inr ⟨rfl, rfl⟩
    | _ => rfl

theorem Same.frozen {W W' : World} (h : Same W W') (a : Addr) (ha : a.block < W.heap.size) : W'.frozen? a = W.frozen? a := by
  unfold World.frozen?; rw [h.heap _ ha]

theorem Pure.calls {P : Program} {Γ : Glob} {f : FuncId} {args : List V} {b : Bool} (h : Pure P Γ f args (.i (.bool b))) (W : World) (xs : Array Value) (hx : VRs (fun _ => none) (fun b => b < W.heap.size) W args xs)
    (hg : GlobR Γ (fun b => b < W.heap.size) W) : Calls P f xs W fun e W' => e = .returned (.bool b) ∧ Same W W' := by
  refine (h s0 (fun _ => none) _ _ W xs hx (hrel_all W hg)).mono fun e W' hq => ?_
  obtain ⟨v, s', x, α', S', B', rfl, ⟨rfl, rfl⟩, hv, _, hf, _⟩ := hq
  have := hv.bool_inv; subst this
  exact ⟨rfl, hf.os, hf.output, hf.size, fun b hb => hf.same b hb (fun h => h)⟩

theorem post_of_old {P : Program} {H : Type} {enc : TypeId × Value → H} {f : Func} {s : ChangeSpec} {apart fresh handsOn again : Bool} {W W' : World} {args : Array Value} {v : Value} {ds gs : List (DataW H)} {before pa pv : List MemPlace}
    (hW : DataW.Whole enc P f.params.toList s.vars apart W args.toList ds gs before)
    (hres : ∀ (b : Nat) (sp : Nat → Bool) (hd : Bool), DataW.TrodAll enc P W' b sp hd f.resultTypes.toList (v.resultList f.resultTypes.size) (s.fn H (ds ++ gs)).results [])
    (hargs : ∀ sp : Nat → Bool, (∀ p ∈ before, sp p.block = true) → DataW.TrodAll enc P W' 0 sp true f.params.toList args.toList (s.fn H (ds ++ gs)).args pa)
    (hvars : ∀ sp : Nat → Bool, (∀ p ∈ before, sp p.block = true) → DataW.TrodVars enc P W' sp s.vars (s.fn H (ds ++ gs)).vars pv)
    (hps : before = pa ++ pv) (hs : Same W W')
    (hok : ∀ (j : Nat) (t : TypeId) (r : Value), f.resultTypes[j]? = some t → (v.resultList f.resultTypes.size)[j]? = some r → Value.okWide P W' .any 0 t r) :
    s.post enc P f apart fresh handsOn again W args v W' := by
  have hold : ∀ p ∈ before, (fun b => decide (b < W.heap.size)) p.block = true := fun p hp => by simpa using hW.lt p hp
  refine ⟨ds, gs, before, [], pa, pv, hW, hres _ _ _, hargs _ hold, hvars _ hold, World.keptBut_mono (fun p hp => ⟨hp, ?_⟩) (hs.kept (· ∈ before)), fun _ => ?_⟩
  · rw [hps, List.mem_append] at hp
    exact Or.inr hp
  · have hlt := hW.lt
    obtain ⟨_, _, _, _, _, hz, hn⟩ := hW
    refine ⟨hok, _, _, ([] ++ pa) ++ pv, ⟨[] ++ pa, pv, trodAll_append (hargs _ (fun _ _ => rfl)) (hres _ _ _), hvars _ (fun _ _ => rfl), rfl, ?_, ?_⟩, ?_⟩
    · intro b off hp
      have hb : MemPlace.cell b off ∈ before := by rw [hps]; simpa using hp
      rw [hs.frozen ⟨b, off, none⟩ (hlt _ hb)]
      exact hz b off hb
    · intro ha
      have := hn ha
      rw [hps] at this
      simpa using this
    · intro p hp _
      rw [hps]
      simpa using hp
end Go.Ab
