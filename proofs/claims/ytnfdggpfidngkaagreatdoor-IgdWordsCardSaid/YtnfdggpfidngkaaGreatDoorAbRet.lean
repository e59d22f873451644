/-
  The layer Ab, part 14: what a function hands back; calls of function values.
-/
import Derived.Test.YtnfdggpfidngkaaGreatDoorAbFrame
namespace Go.Ab
section
variable {P : Program} {Γ : Glob} {ro : Option Nat} {N : Nat} {D : List Deferred} {pin : Nat} {Q : Exit → St → Prop} {st : St}

def resOne (tmps : Array Value) : ResultVar → Sem Value
  | .tmp t => pure (tmps.getD t undef)
  | .cell a t => do loadVar t (← asAddr (tmps.getD a undef))

/-- What one result is. -/
inductive ResR (P : Program) (st : St) : ResultVar → V → Prop
  | tmp {t : Tmp} {v : V} (h : st.e.lookup t = some v) : ResR P st (.tmp t) v
  | leaf {t : Tmp} {ty : TypeId} {id off : Nat} {cs : List V} {v : V} (ht : Leaf P ty) (h : st.e.lookup t = some (.p id off)) (hm : st.s.hp.lookup id = some cs) (hv : cs[off]? = some v) : ResR P st (.cell t ty) v
  | agg {t : Tmp} {ty : TypeId} {id off n : Nat} {cs vs : List V} (ht : AggT P ty n) (h : st.e.lookup t = some (.p id off)) (hm : st.s.hp.lookup id = some cs) (hl : off + n ≤ cs.length) (hv : (cs.drop off).take n = vs) :
      ResR P st (.cell t ty) (.agg vs)

theorem ResR.run {rv : ResultVar} {v : V} (h : ResR P st rv v) {α : Nat → Option (Nat × Nat)} {S B : Nat → Prop} {a : Act} {W : World} (hs : StR Γ N D α S B st a W) :
    ∃ x, (resOne a.tmps rv).run P W = .ok x W ∧ VR α S W v x := by
  cases h with
  | tmp h => exact ⟨_, rfl, hs.env _ v h⟩
  | @leaf t ty id off cs v ht h hm hv =>
    have hp := hs.env t _ h
    generalize hax : a.tmps.getD t undef = y at hp
    cases hp with
    | p _ _ b base hb =>
      obtain ⟨hlt, rfl⟩ := List.getElem?_eq_some_iff.1 hv
      obtain ⟨xs, tt, hheap, hle, hr⟩ := hs.hp.blkAt hm hb
      have := run_load_leaf ht (W := W) (cell_of_blk hheap (by omega : base + off < xs.size))
      simp only [Instr.loadAt, Instr.sureAddr, Sem.run_bind, Sem.run_pure, Result.andThen_ok] at this
      exact ⟨_, by simp only [resOne, hax, asAddr, Sem.run_bind, Sem.run_pure, Result.andThen_ok, this], hr off hlt⟩
  | @agg t ty id off n cs vs ht h hm hl hv =>
    have hp := hs.env t _ h
    generalize hax : a.tmps.getD t undef = y at hp
    cases hp with
    | p _ _ b base hb =>
      obtain ⟨xs, tt, hheap, hle, hr⟩ := hs.hp.blkAt hm hb
      have := run_load_agg ht (W := W) (fun j hj => cell_of_blk hheap (by omega : base + off + j < xs.size))
      simp only [Instr.loadAt, Instr.sureAddr, Sem.run_bind, Sem.run_pure, Result.andThen_ok] at this
      refine ⟨_, by simp only [resOne, hax, asAddr, Sem.run_bind, Sem.run_pure, Result.andThen_ok, this]; rfl, .agg _ _ ?_ ?_⟩
      · subst hv; simp; omega
      · subst hv
        intro i hi
        have hi' : i < n := by simp at hi; omega
        rw [range_map_getD n _ i hi']
        have := hr (off + i) (by omega)
        rw [Nat.add_assoc]
        simpa using this

theorem run_results {fn : Func} {tmps : Array Value} {rs : List ResultVar} (hr : fn.results = rs.toArray) (W : World) :
    (results fn tmps).run P W = ((rs.mapM (resOne tmps)).run P W).andThen fun l w => .ok (if h : l.toArray.size = 1 then l.toArray[0] else .tuple l.toArray) w := by
  have : results fn tmps = (do let vs ← fn.results.mapM (resOne tmps); pure (if h : vs.size = 1 then vs[0] else .tuple vs)) := by
    unfold results
    congr 1
  rw [this, hr, Sem.run_bind, List.mapM_toArray, Sem.run_map]
  cases (rs.mapM (resOne tmps)).run P W <;> rfl

theorem RetV.r1 {fn : Func} {a : ResultVar} {v : V} (hr : fn.results = #[a]) (h : ResR P st a v) : RetV P Γ N D fn st v := fun _ _ _ ac W hs => by
  obtain ⟨x, h1, h2⟩ := h.run hs
  refine ⟨x, ?_, h2⟩
  rw [run_results (rs := [a]) hr]
  simp [h1]

theorem RetV.r2 {fn : Func} {a b : ResultVar} {v w : V} (hr : fn.results = #[a, b]) (h : ResR P st a v) (k : ResR P st b w) : RetV P Γ N D fn st (.tup [v, w]) := fun _ _ _ ac W hs => by
  obtain ⟨x, h1, h2⟩ := h.run hs
  obtain ⟨y, k1, k2⟩ := k.run hs
  refine ⟨.tuple #[x, y], ?_, .tup _ _ rfl fun i hi => ?_⟩
  · rw [run_results (rs := [a, b]) hr]
    simp [h1, k1]
  · match i, hi with
    | 0, _ => exact h2
    | 1, _ => exact k2

theorem RetV.r3 {fn : Func} {a b c : ResultVar} {v w u : V} (hr : fn.results = #[a, b, c]) (h : ResR P st a v) (k : ResR P st b w) (l : ResR P st c u) : RetV P Γ N D fn st (.tup [v, w, u]) := fun _ _ _ ac W hs => by
  obtain ⟨x, h1, h2⟩ := h.run hs
  obtain ⟨y, k1, k2⟩ := k.run hs
  obtain ⟨z, l1, l2⟩ := l.run hs
  refine ⟨.tuple #[x, y, z], ?_, .tup _ _ rfl fun i hi => ?_⟩
  · rw [run_results (rs := [a, b, c]) hr]
    simp [h1, k1, l1]
  · match i, hi with
    | 0, _ => exact h2
    | 1, _ => exact k2
    | 2, _ => exact l2

theorem RetV.r4 {fn : Func} {a b c d : ResultVar} {v w u t : V} (hr : fn.results = #[a, b, c, d]) (h : ResR P st a v) (k : ResR P st b w) (l : ResR P st c u) (m : ResR P st d t) : RetV P Γ N D fn st (.tup [v, w, u, t]) := fun _ _ _ ac W hs => by
  obtain ⟨x, h1, h2⟩ := h.run hs
  obtain ⟨y, k1, k2⟩ := k.run hs
  obtain ⟨z, l1, l2⟩ := l.run hs
  obtain ⟨q, m1, m2⟩ := m.run hs
  refine ⟨.tuple #[x, y, z, q], ?_, .tup _ _ rfl fun i hi => ?_⟩
  · rw [run_results (rs := [a, b, c, d]) hr]
    simp [h1, k1, l1, m1]
  · match i, hi with
    | 0, _ => exact h2
    | 1, _ => exact k2
    | 2, _ => exact l2
    | 3, _ => exact m2

/-- The end of a walk. -/
theorem FnQ.ret {fn : Func} {K : V → Hs → Prop} {st' : St} {v : V} (hg : Gh Γ N [] pin st st') (hr : RetV P Γ N [] fn st' v) (hk : K v st'.s) : FnQ P Γ N pin fn K .ret st := ⟨.inr rfl, st', v, _, hg, hr, DropR.refl _ _, hk⟩
theorem FnQ.fin {fn : Func} {K : V → Hs → Prop} {st' : St} {v : V} (hg : Gh Γ N [] pin st st') (hr : RetV P Γ N [] fn st' v) (hk : K v st'.s) : FnQ P Γ N pin fn K .normal st := ⟨.inl rfl, st', v, _, hg, hr, DropR.refl _ _, hk⟩

theorem VRs.append {α : Nat → Option (Nat × Nat)} {S : Nat → Prop} {W : World} {as bs : List V} {xs ys : Array Value} (h : VRs α S W as xs) (k : VRs α S W bs ys) : VRs α S W (as ++ bs) (xs ++ ys) :=
  ⟨by simp [h.1, k.1], fun i hi => by
    have h1 := h.1
    have hi' : i < as.length + bs.length := by simpa using hi
    rw [getD_toList, Array.toList_append]
    by_cases hc : i < as.length
    · rw [List.getElem_append_left hc, List.getElem?_append_left (by simp; omega), ← getD_toList]; exact h.2 i hc
    · rw [List.getElem_append_right (by omega), List.getElem?_append_right (by simp; omega)]
      have := k.2 (i - as.length) (by omega)
      rw [getD_toList] at this
      have e : xs.toList.length = as.length := by simpa using h1
      rw [e]; exact this⟩

theorem run_callV {a : Act} {W : World} {o : Oper} {x : Operand} {args : List Operand} {ts : Array TypeId} {f : FuncId} {fn : Func} {xs ys : Array Value} (ho : o.op = .call ⟨.value x, args.toArray, ts⟩) (hx : a.eval x = .func (.func f) xs ys)
    (hf : P.funcs[f]? = some fn) (hb : fn.body.isNone = false) (hn : (fn.name == "runtime.NumGoroutine") = false) :
    (execOp a.eval o).run P W = .ok (.enter f (xs ++ (args.map a.eval).toArray ++ ys)) W := by
  have hn' : ¬ fn.name = "runtime.NumGoroutine" := by simpa using hn
  have hb' : ¬ fn.body = none := fun h => by simp [h] at hb
  simp [execOp, ho, resolve, hx, Deferred.ofValue, invoke, callFunc, hf, hb', hn']

theorem op_callV {e : Env} {s : Hs} {d : Option Tmp} {ty : TypeId} {pos : String} {af : Array Edge} {g : Option (Nat × Bool)} {x : Operand} {f : FuncId} {fn : Func} {args : List Operand} {ts : Array TypeId} {first cap vs : List V} {K : V → Hs → Prop}
    (hx : evalE Γ e x = some (.fn (.func f) first cap)) (hf : P.funcs[f]? = some fn) (hb : fn.body.isNone = false) (hn : (fn.name == "runtime.NumGoroutine") = false) (ha : args.mapM (evalE Γ e) = some vs)
    (hc : CallOK P Γ f (first ++ vs ++ cap) s K) : LOp P Γ ⟨d, .call ⟨.value x, args.toArray, ts⟩, ty, pos, af, g⟩ e s K := by
  intro ro m a W α S B next Q he hh hnext
  refine ⟨about_wide, ?_⟩
  rw [Oper.semAt_eq _ _ _ (fun _ h => by cases h)]
  have hxs := mapM_rel he hh.glob args vs ha
  have hv := evalE_rel he hh.glob hx
  generalize hax : a.eval x = y at hv
  cases hv with
  | fn _ _ _ xs ys h1 h2 hr1 hr2 =>
    rw [run_callV rfl hax hf hb hn, Oper.uponIn_enter]
    refine ⟨fun h => absurd h (by simp [Fe]), ?_⟩
    have := hc α S B W _ (VRs.append (VRs.append ⟨h1, hr1⟩ hxs) ⟨h2, hr2⟩) hh
    have key : ∀ R, Calls P f (xs ++ (args.map a.eval).toArray ++ ys) W R → CallsIn (Fe ro) (m - 1) P f (xs ++ (args.map a.eval).toArray ++ ys) W R := fun R h => by
      cases ro with
      | none => exact callsIn_wide.2 h
      | some l => exact CallsIn.inRound l (callsIn_wide.2 h)
    refine (key _ this).mono fun e W' hq => ?_
    obtain ⟨v, s', x, α', S', B', rfl, hk, hv, hh', hf', hal⟩ := hq
    exact hnext v s' x α' S' B' W' hk hv hh' hf' hal

theorem op_callI {e : Env} {s : Hs} {d : Option Tmp} {ty : TypeId} {pos : String} {af : Array Edge} {g : Option (Nat × Bool)} {x : Operand} {f : FuncId} {fn : Func} {args : List Operand} {ts : Array TypeId} {first cap : List I} {vs : List V} {K : V → Hs → Prop}
    (hx : evalE Γ e x = some (.i (.fn (.func f) first cap))) (hf : P.funcs[f]? = some fn) (hb : fn.body.isNone = false) (hn : (fn.name == "runtime.NumGoroutine") = false) (ha : args.mapM (evalE Γ e) = some vs)
    (hc : CallOK P Γ f (first.map V.i ++ vs ++ cap.map V.i) s K) : LOp P Γ ⟨d, .call ⟨.value x, args.toArray, ts⟩, ty, pos, af, g⟩ e s K := by
  intro ro m a W α S B next Q he hh hnext
  refine ⟨about_wide, ?_⟩
  rw [Oper.semAt_eq _ _ _ (fun _ h => by cases h)]
  have hxs := mapM_rel he hh.glob args vs ha
  have hv := evalE_rel he hh.glob hx
  generalize hax : a.eval x = y at hv
  cases hv with
  | i _ _ hv => cases hv with
    | fn _ _ _ xs ys h1 h2 hr1 hr2 =>
      rw [run_callV rfl hax hf hb hn, Oper.uponIn_enter]
      refine ⟨fun h => absurd h (by simp [Fe]), ?_⟩
      have g1 : VRs α S W (first.map V.i) xs := ⟨by simpa using h1, fun i hi => by simp only [List.getElem_map]; exact .i _ _ (hr1 i (by simpa using hi))⟩
      have g2 : VRs α S W (cap.map V.i) ys := ⟨by simpa using h2, fun i hi => by simp only [List.getElem_map]; exact .i _ _ (hr2 i (by simpa using hi))⟩
      have := hc α S B W _ (VRs.append (VRs.append g1 hxs) g2) hh
      have key : ∀ R, Calls P f (xs ++ (args.map a.eval).toArray ++ ys) W R → CallsIn (Fe ro) (m - 1) P f (xs ++ (args.map a.eval).toArray ++ ys) W R := fun R h => by
        cases ro with
        | none => exact callsIn_wide.2 h
        | some l => exact CallsIn.inRound l (callsIn_wide.2 h)
      refine (key _ this).mono fun e W' hq => ?_
      obtain ⟨v, s', x, α', S', B', rfl, hk, hv, hh', hf', hal⟩ := hq
      exact hnext v s' x α' S' B' W' hk hv hh' hf' hal

/-- A contract of a function that takes nothing owned, told in its own names. -/
theorem CallOK.made {f : FuncId} {args : List V} {hp0' hp' : Hp} {nx0' : Nat} {r0 r : V} {s : Hs} (hargs : RenL (fun j => j) 0 args args) (h : ACall P Γ f args ⟨[], 0, Ext.emp⟩ (EqK r0 ⟨hp0', nx0', Ext.emp⟩))
    (hr : Ren (shiftR (fun j => j) 0 s.nx) nx0' r0 r) (hhp' : HpRen (shiftR (fun j => j) 0 s.nx) nx0' hp0' hp') : CallOK P Γ f args s (EqK r ⟨hp' ++ s.hp, s.nx + nx0', s.ex⟩) :=
  CallOK.of (rest := s.hp) h (Nat.zero_le _) (fun j => j) (fun _ hj => absurd hj (Nat.not_lt_zero _)) (fun _ _ hj => absurd hj (Nat.not_lt_zero _)) hargs HpR.nil (by simp) (List.Sublist.refl _) (fun _ _ _ hj => absurd hj (Nat.not_lt_zero _)) hr hhp'

end
end Go.Ab
