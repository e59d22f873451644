/-
  'hearthlaw21.IgdWords' returns true for every number, and leaves all that was there as it was. No condition but the row's own (the tables that the row lists read as listed).
-/
import Derived.Test.YtnfdggpfidngkaaGreatDoorW4
import Derived.Test.YtnfdggpfidngkaaGreatDoorAbLaw
import Derived.Test.YtnfdggpfidngkaaGreatDoorLIgdWordsF
import Derived.Test.YtnfdggpfidngkaaGreatDoorCards
import Derived.Test.YtnfdggpfidngkaaGreatDoorTie
import Derived.WalkKit
import Derived.ProofKit
import Derived.OpenShut
import Derived.Deep.DeepHandedRow
import Derived.Lib.LaidTab
namespace Go.Proofs.YtnfdggpfidngkaaGreatDoor.igdWords
open Go.ChangeShapes Go.WideShapes Go.ChangeAt Go.RowKit Go.Ab

/-! The plain law. -/

theorem speaks : f10 20 = some true := by kernel_rfl

theorem bif_some {α : Type} {b : Bool} {x y : Option α} (hx : ∃ w, x = some w) (hy : ∃ w, y = some w) : ∃ w, (bif b then x else y) = some w := by
  cases b
  · exact hy
  · exact hx

theorem flip (a b : Int) : decide (a = b) = decide (b = a) := by
  rw [Bool.eq_iff_iff]; simp only [decide_eq_true_eq]; exact eq_comm

theorem words_some (code : Int) : ∃ w, f33 20 code = some w := by
  unfold f33
  repeat (refine bif_some ⟨_, rfl⟩ ?_)
  exact ⟨_, rfl⟩

theorem ref_eq (n : Int) : f34 20 n = (bif decide (401 = n) then some s_Invalid_Action else bif decide (402 = n) then some s_Invalid_Args else bif decide (501 = n) then some s_Action_Failed else
    bif decide (606 = n) then some s_Action_not_authorized else bif decide (713 = n) then some s_SpecifiedArrayIndexInval else bif decide (714 = n) then some s_NoSuchEntryInArray else
    bif decide (716 = n) then some s_WildCardNotPermittedInEx else bif decide (718 = n) then some s_ConflictInMappingEntry else bif decide (728 = n) then some s_NoPortMapsAvailable else
    bif decide (729 = n) then some s_ConflictWithOtherMechani else bif decide (730 = n) then some s_PortMappingNotFound else bif decide (732 = n) then some s_WildCardNotPermittedInIn else
    bif decide (733 = n) then some s_InconsistentParameters else some s_Error) := by kernel_rfl

theorem same_words (code : Int) : f33 20 code = f34 20 code := by
  rw [ref_eq, flip 401, flip 402, flip 501, flip 606, flip 713, flip 714, flip 716, flip 718, flip 728, flip 729, flip 730, flip 732, flip 733]
  rfl

theorem law (code : Int) : f8 20 code = some true := by
  obtain ⟨w, hw⟩ := words_some code
  have hr : f34 20 code = some w := by rw [← same_words, hw]
  unfold f8
  rw [speaks, hw, hr]
  simp

/-! The row. -/

theorem own : ownKnob Tryz.prog.godebug = none := by kernel_rfl

set_option maxRecDepth 100000 in
theorem contract (H : Type) (enc : TypeId × Value → H) (W : World) (base : Nat) (args : Array Value) (ds gs : List (DataW H)) (before : List MemPlace)
    (hval : ∀ (j : Nat) t v, Tryz.f8.params[j]? = some t → args[j]? = some v → Value.okWide Tryz.prog W .any base t v)
    (hW : DataW.Whole enc Tryz.prog Tryz.f8.params.toList Rows.igdWordsSpec.vars false W args.toList ds gs before) :
    Calls Tryz.prog 8 args W fun e W' => ∃ v, e = .returned v ∧ Rows.igdWordsSpec.post enc Tryz.prog Tryz.f8 false true false false W args v W' := by
  have hW' := hW
  obtain ⟨p, q, hA0, hV, rfl, hfz, hnd⟩ := hW
  have hA : DataW.TrodAll enc Tryz.prog W 0 (fun _ => true) true Tryz.f8.params.toList args.toList ds p := hA0
  rw [Tryz.params8] at hA hval
  obtain ⟨v0, vs0, d0, ds0, p0, q0, hargs, rfl, rfl, h0, r0⟩ := trodAll_cons hA
  obtain ⟨rfl, rfl, rfl⟩ := trodAll_nil r0
  obtain rfl : args = #[v0] := by cases args; simp_all
  obtain ⟨rfl, rfl⟩ := trodVars_none hV
  obtain ⟨n, rfl, rfl, rfl, hwf⟩ := open_int Tryz.underlying3 (hval 0 3 v0 rfl rfl) h0
  clear hA0
  simp only [List.append_nil] at hW'
  refine (Pure.calls (f8_c (law n)) W #[.int .i64 n] ⟨rfl, fun i hi => by
    match i, hi with
    | 0, _ => exact .i _ _ (.int _ _)⟩ (fun g cs h => by cases h)).mono fun e W' ⟨he, hs⟩ => ?_
  subst he
  exact ⟨_, rfl, post_of_old (pa := []) (pv := []) hW' (fun _ _ _ => trodAll_cons_mk (shut_bool Tryz.underlying4 _) trodAll_mk0) (fun _ _ => trodAll_cons_mk (shut_int Tryz.underlying3 hwf) trodAll_mk0) (fun _ _ => rfl) rfl hs
    (ok_one (by kernel_rfl) rfl (okWide_bool_mk Tryz.underlying4 _))⟩

/-! A world for the witness: the settled one, the tables holding what their initialisers lay. -/

def flat : Nat → DataW Unit → List Value
  | n + 1, .agg ds => ds.flatMap (flat n)
  | _ + 1, .lit (.int k v) => [.int k v]
  | _, _ => []
def layAt (g : Nat) (d : DataW Unit) (heap : Array Obj) : Array Obj := heap.modify g fun
  | .cells _ t frozen => .cells (flat 4 d).toArray t frozen
  | o => o
noncomputable def laidWorld (os : Os) : World :=
  { World.holding Tryz.prog os ⟨#[], #[], []⟩ with heap := layAt 4 Rows.laid_math_bits_deBruijn32tab (layAt 5 Rows.laid_math_bits_deBruijn64tab (layAt 1 Rows.laid_internal_strconv_uint64pow10
    (layAt 3 Rows.laid_unicode_utf8_acceptRanges (layAt 2 Rows.laid_unicode_utf8_first (World.holding Tryz.prog os ⟨#[], #[], []⟩).heap)))) }
theorem laid_met (os : Os) : laidMet Tryz.prog Rows.igdWordsRow.laid ((laidWorld os).forCall (fun _ _ => 0) ⟨#[], #[.int .i64 0], []⟩).memory :=
  laidMet_of_run' 8 (by kernel_rfl) (by kernel_rfl)
theorem reads (os : Os) {H : Type} (enc : TypeId × Value → H) : ∃ places, DataW.whole enc Tryz.prog ((laidWorld os).forCall (fun _ _ => 0) ⟨#[], #[.int .i64 0], []⟩).memory Tryz.f8.params.toList Rows.igdWordsSpec.vars false #[Value.int .i64 0].toList 8 = some ([.lit (.int .i64 0)], [], places) :=
  ⟨[], by kernel_rfl⟩

set_option maxRecDepth 100000 in
theorem lifted (os : Os) (started : os.Started) (H : Type) (enc : TypeId × Value → H) (F : Stop.Interp) :
    ReturnsInHanded {} Tryz.checked os 8 .any ((OpenSpec.ofChange Rows.igdWordsSpec).preRow enc Tryz.prog Tryz.f8 Rows.igdWordsRow.domain false Rows.igdWordsRow.laid) (((OpenSpec.ofChange Rows.igdWordsSpec).at F).post enc Tryz.prog Tryz.f8 false true false false) := by
  obtain ⟨places, hx⟩ := reads os enc
  refine returnsInHanded_of_row (C := Tryz.checked) (s := OpenSpec.ofChange Rows.igdWordsSpec) own started (by kernel_rfl) Tryz.func8
    (witness_row_at (enc := enc) (C := Tryz.checked) false (laidWorld os) #[.int .i64 0] rfl (by kernel_rfl) (by kernel_rfl) (by kernel_rfl)
      (OpenSpec.preRow_of_cond 8 hx (by kernel_rfl) (fun k hk => by cases hk) (by kernel_rfl) (laid_met os))) ?_
  intro W base args ds gs before hval hW _ _ _ _ _ _
  exact contract H enc W base args ds gs before hval hW

theorem said : Rows.IgdWordsSaid :=
  OpenClaim.holds_of_cond 8 Tryz.f8 rfl rfl rfl rfl rfl rfl rfl ⟨rfl, rfl, rfl, rfl, rfl⟩ rfl rfl rfl rfl rfl (by kernel_rfl) Tryz.func8 closed
    (of_decide_eq_true (by kernel_rfl)) wrapper
    (fun os started H enc _ F => by rw [OpenClaim.pre_eq_preRow]; exact lifted os started H enc F)

theorem plain (f : FuncId) (fn : Func) (hf : Tryz.pinned.checked.prog.funcNamed "hearth/hearthlaw21.IgdWords" = some f) (hfn : Tryz.pinned.checked.prog.funcs[f]? = some fn) :
    true = Tryz.pinned.checked.prog.looks [] ∧ ∀ (j : Nat) t, fn.params[j]? = some t → Tryz.pinned.checked.prog.wantsStandIn t = false := by
  obtain rfl : f = 8 := Option.some.inj ((show Tryz.prog.funcNamed "hearth/hearthlaw21.IgdWords" = some 8 by kernel_rfl).symm.trans hf) |>.symm
  obtain rfl : fn = Tryz.f8 := (Option.some.inj (Tryz.func8.symm.trans hfn)).symm
  refine ⟨by kernel_rfl, fun j t ht => ?_⟩
  rw [Tryz.params8] at ht
  obtain rfl : t = 3 := by simpa using Array.mem_of_getElem? ht
  exact (show Tryz.prog.wantsStandIn 3 = false by kernel_rfl)

theorem card : Rows.IgdWordsCardSaid :=
  Claim7.holds_tied_plain_at .later [] _ _ _ _ said (fun _ h => by cases h) (by kernel_rfl) (fun _ h => by cases h) igdWords_row_tie rfl ⟨rfl, rfl⟩ (by kernel_rfl) rfl plain (by kernel_rfl)
end Go.Proofs.YtnfdggpfidngkaaGreatDoor.igdWords
