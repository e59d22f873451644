/-
  The layer Ab, part 6: texts and slices by places, lengths, fields, literals, function values.
-/
import Derived.Test.YtnfdggpfidngkaaGreatDoorAbVals
namespace Go.Ab
variable {P : Program} {Γ : Glob} {e : Env} {s : Hs}
section
variable {d : Option Tmp} {ty : TypeId} {pos : String} {af : Array Edge} {g : Option (Nat × Bool)}

theorem ba_size (l : Str) : (⟨l.toArray⟩ : ByteArray).size = l.length := by simp [ByteArray.size]

theorem op_index_str {t : TypeId} {x y : Operand} {l : Str} {kk : IntKind} {n : Int} {j : Nat} {c : UInt8} (ht : P.underlying t = some .string) (hx : evalE Γ e x = some (.i (.str l)))
    (hy : evalE Γ e y = some (.i (.int kk n))) (hj : n = j) (hc : l[j]? = some c) : LOp P Γ ⟨d, .index t x y, ty, pos, af, g⟩ e s (EqK (.i (.int .u8 (c.toNat : Int))) s) :=
  LOp.value (fun _ h => by cases h) fun a W α S B he hh => ⟨.int .u8 (c.toNat : Int), by
    have h1 := (evalE_rel he hh.glob hx).str_inv
    have h2 := (evalE_rel he hh.glob hy).int_inv
    obtain ⟨hlt, hget⟩ := List.getElem?_eq_some_iff.1 hc
    subst hj
    have hsz : (⟨l.toArray⟩ : ByteArray).size = l.length := by simp [ByteArray.size]
    have hr := run_index_string (P := P) W t ⟨l.toArray⟩ kk (j : Int) ht
    rw [dif_pos ⟨by omega, by omega⟩] at hr
    have hg : ((⟨l.toArray⟩ : ByteArray)[(j : Int).toNat]'(by rw [hsz]; simpa using hlt)) = c := by
      have : ((j : Int).toNat) = j := by simp
      simp only [this]
      rw [← hget]; rfl
    rw [hg] at hr
    simp only [execOp, h1, h2, Sem.run_bind, hr, Result.andThen_ok, Sem.run_pure], .i _ _ (.int _ _)⟩

theorem op_len_str {t : TypeId} {x : Operand} {l : Str} {ts : Array TypeId} (hts : ts = #[t]) (ht : P.underlying t = some .string) (hx : evalE Γ e x = some (.i (.str l))) :
    LOp P Γ ⟨d, .call ⟨.builtin .len, #[x], ts⟩, ty, pos, af, g⟩ e s (EqK (.i (.int .i64 (l.length : Int))) s) :=
  LOp.value (fun _ h => by cases h) fun a W α S B he hh => ⟨.int .i64 (l.length : Int), by
    have h1 := (evalE_rel he hh.glob hx).str_inv
    subst hts
    simp [execOp, resolve, invoke, builtin, h1, Builtin.len_, run_underlying ht, goInt, ba_size], .i _ _ (.int _ _)⟩

theorem op_len_vec {t el : TypeId} {x : Operand} {es : List I} {n k : Nat} {ts : Array TypeId} (hts : ts = #[t]) (ht : P.underlying t = some (.slice el)) (hx : evalE Γ e x = some (.i (.vec es n k))) :
    LOp P Γ ⟨d, .call ⟨.builtin .len, #[x], ts⟩, ty, pos, af, g⟩ e s (EqK (.i (.int .i64 (n : Int))) s) :=
  LOp.value (fun _ h => by cases h) fun a W α S B he hh => ⟨.int .i64 (n : Int), by
    have h1 := evalE_rel he hh.glob hx
    generalize hax : a.eval x = y at h1
    subst hts
    cases h1 with | i _ _ h1 => cases h1 <;> simp [execOp, resolve, invoke, builtin, hax, Builtin.len_, run_underlying ht, goInt], .i _ _ (.int _ _)⟩

theorem op_len_sl {t el : TypeId} {x : Operand} {id off n k : Nat} {ts : Array TypeId} (hts : ts = #[t]) (ht : P.underlying t = some (.slice el)) (hx : evalE Γ e x = some (.sl id off n k)) :
    LOp P Γ ⟨d, .call ⟨.builtin .len, #[x], ts⟩, ty, pos, af, g⟩ e s (EqK (.i (.int .i64 (n : Int))) s) :=
  LOp.value (fun _ h => by cases h) fun a W α S B he hh => ⟨.int .i64 (n : Int), by
    have h1 := evalE_rel he hh.glob hx
    generalize hax : a.eval x = y at h1
    subst hts
    cases h1 <;> simp [execOp, resolve, invoke, builtin, hax, Builtin.len_, run_underlying ht, goInt], .i _ _ (.int _ _)⟩

theorem op_len_nil {t el : TypeId} {x : Operand} {ts : Array TypeId} (hts : ts = #[t]) (ht : P.underlying t = some (.slice el)) (hx : evalE Γ e x = some (.i (.val (.slice none 0 0)))) :
    LOp P Γ ⟨d, .call ⟨.builtin .len, #[x], ts⟩, ty, pos, af, g⟩ e s (EqK (.i (.int .i64 0)) s) :=
  LOp.value (fun _ h => by cases h) fun a W α S B he hh => ⟨.int .i64 0, by
    have h1 := (evalE_rel he hh.glob hx).val_inv
    subst hts
    simp [execOp, resolve, invoke, builtin, h1, Builtin.len_, run_underlying ht, goInt], .i _ _ (.int _ _)⟩

/-- A bound of a slice expression. -/
def Bd (Γ : Glob) (e : Env) (o : Option Operand) (dflt n : Nat) : Prop := (o = none ∧ n = dflt) ∨ ∃ x k z, o = some x ∧ evalE Γ e x = some (.i (.int k z)) ∧ z = (n : Int)

theorem Bd.no (n : Nat) : Bd Γ e none n n := .inl ⟨rfl, rfl⟩
theorem Bd.of {x : Operand} {k : IntKind} {z : Int} {dflt n : Nat} (h : evalE Γ e x = some (.i (.int k z))) (hz : z = (n : Int)) : Bd Γ e (some x) dflt n := .inr ⟨x, k, z, rfl, h, hz⟩

theorem Bd.val {a : Act} {W : World} {α : Nat → Option (Nat × Nat)} {S B : Nat → Prop} (he : EnvR α S W e a.tmps) (hh : HRel Γ α S B s W) {o : Option Operand} {dflt n : Nat} (h : Bd Γ e o dflt n) :
    (o.map a.eval = none ∧ n = dflt) ∨ ∃ k, o.map a.eval = some (.int k (n : Int)) := by
  rcases h with ⟨rfl, h⟩ | ⟨x, k, z, rfl, hx, rfl⟩
  · exact .inl ⟨rfl, h⟩
  · exact .inr ⟨k, by simp [(evalE_rel he hh.glob hx).int_inv]⟩

theorem run_sliceBounds {isS : Bool} {len cap l h : Nat} {lo hi : Option Value} (hlo : (lo = none ∧ l = 0) ∨ ∃ k, lo = some (.int k (l : Int))) (hhi : (hi = none ∧ h = len) ∨ ∃ k, hi = some (.int k (h : Int)))
    (h1 : l ≤ h) (h2 : h ≤ cap) (W : World) : (Instr.sliceBounds isS len cap lo hi none).run P W = .ok (l, h, cap) W := by
  rcases hlo with ⟨rfl, rfl⟩ | ⟨k, rfl⟩ <;> rcases hhi with ⟨rfl, rfl⟩ | ⟨k', rfl⟩ <;> simp [Instr.sliceBounds, run_sliceBound, h1, h2]

theorem op_slice_str {t : TypeId} {x : Operand} {lo hi : Option Operand} {l : Str} {a b : Nat} {r : Str} (ht : P.underlying t = some .string) (hx : evalE Γ e x = some (.i (.str l)))
    (hlo : Bd Γ e lo 0 a) (hhi : Bd Γ e hi l.length b) (h1 : a ≤ b) (h2 : b ≤ l.length) (hr : (l.drop a).take (b - a) = r) : LOp P Γ ⟨d, .slice t x lo hi none, ty, pos, af, g⟩ e s (EqK (.i (.str r)) s) :=
  LOp.value (fun _ h => by cases h) fun ac W α S B he hh => ⟨.string ⟨r.toArray⟩, by
    have hv := (evalE_rel he hh.glob hx).str_inv
    subst hr
    have hsz : (⟨l.toArray⟩ : ByteArray).size = l.length := by simp [ByteArray.size]
    have hb := run_sliceBounds (P := P) (isS := false) (len := (⟨l.toArray⟩ : ByteArray).size) (cap := (⟨l.toArray⟩ : ByteArray).size) (hlo.val he hh) (by rw [hsz]; exact hhi.val he hh) h1 (by rw [hsz]; exact h2) W
    simp [execOp, Instr.sliceAt, Instr.slice, run_underlying ht, hv, hb, ByteArray.extract_mk], .i _ _ (.str _)⟩

theorem op_slice_vec {t : TypeId} {x : Operand} {lo hi : Option Operand} {es : List I} {n k a b : Nat} {r : List I} (ht : SliceT P t k) (hx : evalE Γ e x = some (.i (.vec es n k)))
    (hlo : Bd Γ e lo 0 a) (hhi : Bd Γ e hi n b) (h1 : a ≤ b) (h2 : b ≤ n) (hr : (es.drop (a * k)).take ((b - a) * k) = r) : LOp P Γ ⟨d, .slice t x lo hi none, ty, pos, af, g⟩ e s (EqK (.i (.vec r (b - a) k)) s) :=
  LOp.value (fun _ h => by cases h) fun ac W α S B he hh => by
    have hv := evalE_rel he hh.glob hx
    generalize hax : ac.eval x = y at hv
    obtain ⟨el, i, hu, hi', hs⟩ := ht
    subst hr
    cases hv with | i _ _ hv => cases hv with
      | nil =>
        have hb := run_sliceBounds (P := P) (isS := true) (len := 0) (cap := 0) (hlo.val he hh) (hhi.val he hh) h1 h2 W
        have ha : a = 0 := by omega
        have hbb : b = 0 := by omega
        subst ha hbb
        exact ⟨.slice none 0 0, by simp [execOp, Instr.sliceAt, Instr.slice, run_underlying hu, hax, hb, sizeOf, typeInfo, hi'], .i _ _ (by simpa using IR.nil k)⟩
      | emp _ blk o cap =>
        have hb := run_sliceBounds (P := P) (isS := true) (len := 0) (cap := cap) (hlo.val he hh) (hhi.val he hh) h1 (by omega) W
        have ha : a = 0 := by omega
        have hbb : b = 0 := by omega
        subst ha hbb
        by_cases hca : cap = 0
        · subst hca
          exact ⟨.slice (some ⟨blk, o, none⟩) 0 0, by simp [execOp, Instr.sliceAt, Instr.slice, run_underlying hu, hax, hb, sizeOf, typeInfo, hi'], .i _ _ (by simpa using IR.emp k blk o 0)⟩
        · exact ⟨.slice (some ⟨blk, o, none⟩) 0 cap, by simp [execOp, Instr.sliceAt, Instr.slice, run_underlying hu, hax, hb, sizeOf, typeInfo, hi', hca, addr_add], .i _ _ (by simpa using IR.emp k blk o cap)⟩
      | vec _ _ _ blk off cap xs hS hl hc hcell hr =>
        have hb := run_sliceBounds (P := P) (isS := true) (len := n) (cap := cap) (hlo.val he hh) (hhi.val he hh) h1 (by omega) W
        have hmul : a * k + (b - a) * k ≤ es.length := by rw [hl, ← Nat.add_mul, show a + (b - a) = b by omega]; exact Nat.mul_le_mul_right _ h2
        by_cases hca : cap = a
        · subst hca
          have hba : b - cap = 0 := by omega
          refine ⟨.slice (some ⟨blk, off, none⟩) (b - cap) (cap - cap), by simp [execOp, Instr.sliceAt, Instr.slice, run_underlying hu, hax, hb, sizeOf, typeInfo, hi'], .i _ _ ?_⟩
          rw [hba]
          have : (es.drop (cap * k)).take (0 * k) = [] := by simp
          rw [this]
          exact .emp k blk off _
        · refine ⟨.slice (some ⟨blk, off + a * k, none⟩) (b - a) (cap - a), by simp [execOp, Instr.sliceAt, Instr.slice, run_underlying hu, hax, hb, sizeOf, typeInfo, hi', hs, hca, addr_add], .i _ _ ?_⟩
          refine .vec _ _ _ blk (off + a * k) _ (fun i => xs (a * k + i)) hS (by simp; omega) (by omega) (fun i hi => ?_) (fun i hi => ?_)
          · have : i < (b - a) * k := by simp at hi; omega
            rw [Nat.add_assoc]; exact hcell _ (by omega)
          · have : i < (b - a) * k := by simp at hi; omega
            have h3 := hr (a * k + i) (by omega)
            simpa using h3

theorem op_slice_sl {t : TypeId} {x : Operand} {lo hi : Option Operand} {id off n k a b : Nat} (ht : SliceT P t k) (hx : evalE Γ e x = some (.sl id off n k))
    (hlo : Bd Γ e lo 0 a) (hhi : Bd Γ e hi n b) (h1 : a ≤ b) (h2 : b ≤ n) : LOp P Γ ⟨d, .slice t x lo hi none, ty, pos, af, g⟩ e s (EqK (.sl id (off + a * k) (b - a) k) s) :=
  LOp.value (fun _ h => by cases h) fun ac W α S B he hh => by
    have hv := evalE_rel he hh.glob hx
    generalize hax : ac.eval x = y at hv
    obtain ⟨el, i, hu, hi', hs⟩ := ht
    cases hv with
    | slnil =>
      have hb := run_sliceBounds (P := P) (isS := true) (len := 0) (cap := 0) (hlo.val he hh) (hhi.val he hh) h1 h2 W
      have ha : a = 0 := by omega
      have hbb : b = 0 := by omega
      subst ha hbb
      exact ⟨.slice none 0 0, by simp [execOp, Instr.sliceAt, Instr.slice, run_underlying hu, hax, hb, sizeOf, typeInfo, hi'], .slnil _ _ _⟩
    | sl0 _ _ _ blk o =>
      have hb := run_sliceBounds (P := P) (isS := true) (len := 0) (cap := 0) (hlo.val he hh) (hhi.val he hh) h1 h2 W
      have ha : a = 0 := by omega
      have hbb : b = 0 := by omega
      subst ha hbb
      exact ⟨.slice (some ⟨blk, o, none⟩) 0 0, by simp [execOp, Instr.sliceAt, Instr.slice, run_underlying hu, hax, hb, sizeOf, typeInfo, hi'], .sl0 _ _ _ _ _⟩
    | sl _ _ _ _ blk base cap N tt hα hsh hN hc =>
      have hb := run_sliceBounds (P := P) (isS := true) (len := n) (cap := cap) (hlo.val he hh) (hhi.val he hh) h1 (by omega) W
      by_cases hca : cap = a
      · subst hca
        have hba : b - cap = 0 := by omega
        refine ⟨.slice (some ⟨blk, base + off, none⟩) (b - cap) (cap - cap), by simp [execOp, Instr.sliceAt, Instr.slice, run_underlying hu, hax, hb, sizeOf, typeInfo, hi'], ?_⟩
        rw [hba, Nat.sub_self]
        exact .sl0 _ _ _ _ _
      · refine ⟨.slice (some ⟨blk, base + (off + a * k), none⟩) (b - a) (cap - a), by simp [execOp, Instr.sliceAt, Instr.slice, run_underlying hu, hax, hb, sizeOf, typeInfo, hi', hs, hca, addr_add, Nat.add_assoc], ?_⟩
        have hcm : a * k + (cap - a) * k = cap * k := by rw [← Nat.add_mul, show a + (cap - a) = cap by omega]
        exact .sl _ _ _ _ blk base (cap - a) N tt hα hsh (by omega) (by omega)

/-- A field's place and type. -/
def FieldT (P : Program) (st : TypeId) (f off : Nat) (ft : TypeId) : Prop :=
  ∃ fields fd, P.underlying st = some (.struct fields) ∧ fields[f]? = some fd ∧ fd.offset = off ∧ fd.type = ft

def fieldTB (P : Program) (st f off ft : Nat) : Bool := match P.underlying st with
  | some (.struct fields) => match fields[f]? with
    | some fd => fd.offset == off && fd.type == ft
    | none => false
  | _ => false
theorem FieldT.of {P : Program} {st : TypeId} {f off : Nat} {ft : TypeId} (h : fieldTB P st f off ft = true) : FieldT P st f off ft := by
  unfold fieldTB at h
  split at h
  · rename_i fields hu
    split at h
    · rename_i fd hf; simp only [Bool.and_eq_true, beq_iff_eq] at h; exact ⟨fields, fd, hu, hf, h.1, h.2⟩
    · cases h
  · cases h

theorem op_field_leaf {st ft : TypeId} {x : Operand} {f off : Nat} {cs : List V} {v : V} (hf : FieldT P st f off ft) (ht : Leaf P ft) (hx : evalE Γ e x = some (.agg cs)) (hv : cs[off]? = some v) :
    LOp P Γ ⟨d, .field st x f, ty, pos, af, g⟩ e s (EqK v s) :=
  LOp.value (fun _ h => by cases h) fun ac W α S B he hh => by
    have h := evalE_rel he hh.glob hx
    generalize hax : ac.eval x = y at h
    obtain ⟨fields, fd, hu, hfd, rfl, rfl⟩ := hf
    obtain ⟨dd, i, hu2, hd, hi, hsz⟩ := ht
    cases h with
    | agg _ xs hl hr =>
      obtain ⟨hlt, rfl⟩ := List.getElem?_eq_some_iff.1 hv
      have hlt' : fd.offset < xs.size := by omega
      have hg : xs.getD fd.offset undef = xs[fd.offset] := by simp [Array.getD, hlt']
      have hr' := hr fd.offset hlt
      rw [hg] at hr'
      exact ⟨xs[fd.offset], by simp [execOp, Instr.field, run_underlying hu, hfd, hax, asAgg, part, run_isAgg hu2, hd, hlt'], hr'⟩

theorem op_field_agg {st ft : TypeId} {x : Operand} {f off n : Nat} {cs vs : List V} (hf : FieldT P st f off ft) (ht : AggT P ft n) (hx : evalE Γ e x = some (.agg cs)) (hl : off + n ≤ cs.length)
    (hv : (cs.drop off).take n = vs) : LOp P Γ ⟨d, .field st x f, ty, pos, af, g⟩ e s (EqK (.agg vs) s) :=
  LOp.value (fun _ h => by cases h) fun ac W α S B he hh => by
    have h := evalE_rel he hh.glob hx
    generalize hax : ac.eval x = y at h
    obtain ⟨fields, fd, hu, hfd, rfl, rfl⟩ := hf
    obtain ⟨dd, i, hu2, hd, hi, hsz⟩ := ht
    subst hv
    cases h with
    | agg _ xs hl' hr =>
      refine ⟨.agg (xs.extract fd.offset (fd.offset + n)), by simp [execOp, Instr.field, run_underlying hu, hfd, hax, asAgg, part, run_isAgg hu2, hd, sizeOf, typeInfo, hi, hsz], .agg _ _ (by simp; omega) fun i hi => ?_⟩
      have hi' : i < n := by simp at hi; omega
      have h3 := hr (fd.offset + i) (by omega)
      have hg : (xs.extract fd.offset (fd.offset + n)).getD i undef = xs.getD (fd.offset + i) undef := by
        have h4 : fd.offset + i < xs.size := by omega
        have h5 : i < min (fd.offset + n) xs.size - fd.offset := by omega
        simp only [Array.getD, Array.size_extract, dif_pos h5, dif_pos h4]
        simp
      rw [hg]
      simpa using h3

theorem op_makeFunc {f : Fn} {cap : Array Operand} {vs : List V} (hc : cap.toList.mapM (evalE Γ e) = some vs) :
    LOp P Γ ⟨d, .makeFunc f #[] cap, ty, pos, af, g⟩ e s (EqK (.fn f [] vs) s) :=
  LOp.value (fun _ h => by cases h) fun ac W α S B he hh => by
    have key : ∀ (l : List Operand) (vs : List V), l.mapM (evalE Γ e) = some vs → l.length = vs.length ∧ ∀ i (h : i < vs.length), ∃ x, l[i]? = some x ∧ VR α S W vs[i] (ac.eval x) := by
      intro l
      induction l with
      | nil => intro vs h; simp at h; subst h; exact ⟨rfl, fun i hi => absurd hi (Nat.not_lt_zero i)⟩
      | cons y l ih =>
        intro vs h
        simp only [List.mapM_cons, Option.bind_eq_bind, Option.bind_eq_some_iff, Option.pure_def, Option.some.injEq] at h
        obtain ⟨v, hv, ws, hws, rfl⟩ := h
        obtain ⟨h1, h2⟩ := ih ws hws
        refine ⟨by simp [h1], fun i hi => ?_⟩
        cases i with
        | zero => exact ⟨y, rfl, evalE_rel he hh.glob hv⟩
        | succ i =>
          obtain ⟨x, hx, hr⟩ := h2 i (by simpa using hi)
          exact ⟨x, by simpa using hx, by simpa using hr⟩
    obtain ⟨h1, h2⟩ := key _ _ hc
    refine ⟨.func f #[] (cap.map ac.eval), by simp [execOp, Instr.makeFunc], .fn f [] vs #[] _ rfl (by simpa using h1) (fun i hi => absurd hi (Nat.not_lt_zero i)) fun i hi => ?_⟩
    obtain ⟨x, hx, hr⟩ := h2 i hi
    have h3 : i < cap.size := by have := h1; simp at this; omega
    have h4 : cap[i] = x := by simpa [h3] using hx
    have : (cap.map ac.eval).getD i undef = ac.eval x := by simp [Array.getD, h3, h4]
    rw [this]; exact hr

theorem op_max {t : TypeId} {x y : Operand} {k k2 : IntKind} {a b r : Int} {ts : Array TypeId} (hx : evalE Γ e x = some (.i (.int k a))) (hy : evalE Γ e y = some (.i (.int k2 b))) (hr : (if b > a then b else a) = r) :
    LOp P Γ ⟨d, .call ⟨.builtin .max, #[x, y], ts⟩, t, pos, af, g⟩ e s (EqK (.i (.int k r)) s) :=
  LOp.value (fun _ h => by cases h) fun ac W α S B he hh => ⟨.int k r, by
    have h1 := (evalE_rel he hh.glob hx).int_inv
    have h2 := (evalE_rel he hh.glob hy).int_inv
    subst hr
    simp [execOp, resolve, invoke, builtin, h1, h2, Builtin.max_, Builtin.max2], .i _ _ (.int _ _)⟩

theorem op_min {t : TypeId} {x y : Operand} {k k2 : IntKind} {a b r : Int} {ts : Array TypeId} (hx : evalE Γ e x = some (.i (.int k a))) (hy : evalE Γ e y = some (.i (.int k2 b))) (hr : (if b < a then b else a) = r) :
    LOp P Γ ⟨d, .call ⟨.builtin .min, #[x, y], ts⟩, t, pos, af, g⟩ e s (EqK (.i (.int k r)) s) :=
  LOp.value (fun _ h => by cases h) fun ac W α S B he hh => ⟨.int k r, by
    have h1 := (evalE_rel he hh.glob hx).int_inv
    have h2 := (evalE_rel he hh.glob hy).int_inv
    subst hr
    simp [execOp, resolve, invoke, builtin, h1, h2, Builtin.min_, Builtin.min2], .i _ _ (.int _ _)⟩

theorem run_equalIn_ptr_nil {t el : TypeId} (ht : P.underlying t = some (.pointer el)) (n : Nat) (a : Addr) (W : World) : (Op.equalIn (n + 1) t (.pointer (some a)) (.pointer none)).run P W = .ok false W := by
  simp [Op.equalIn, run_underlying ht]
theorem run_equalIn_nil_nil {t el : TypeId} (ht : P.underlying t = some (.pointer el)) (n : Nat) (W : World) : (Op.equalIn (n + 1) t (.pointer none) (.pointer none)).run P W = .ok true W := by
  simp [Op.equalIn, run_underlying ht]

theorem op_eql_ptr_nil {t t2 el : TypeId} {x y : Operand} {v : V} (ht : P.underlying t = some (.pointer el)) (hx : evalE Γ e x = some v) (hp : IsPtr v) (hy : evalE Γ e y = some (.i (.val (.pointer none)))) :
    LOp P Γ ⟨d, .binOp .eql t x y t2, ty, pos, af, g⟩ e s (EqK (.i (.bool false)) s) :=
  LOp.value (fun _ h => by cases h) fun ac W α S B he hh => ⟨.bool false, by
    obtain ⟨b, o, h1⟩ := hp.some (evalE_rel he hh.glob hx)
    have h2 := (evalE_rel he hh.glob hy).val_inv
    simp only [execOp, h1, h2, Sem.run_bind, run_eqGuard_ptr, Result.andThen_ok, binOp, Op.equal, Sem.run_pure]
    rw [show Op.maxDepth = 9999 + 1 from rfl, run_equalIn_ptr_nil ht]; rfl, .i _ _ (.bool _)⟩

theorem op_neq_ptr_nil {t t2 el : TypeId} {x y : Operand} {v : V} (ht : P.underlying t = some (.pointer el)) (hx : evalE Γ e x = some v) (hp : IsPtr v) (hy : evalE Γ e y = some (.i (.val (.pointer none)))) :
    LOp P Γ ⟨d, .binOp .neq t x y t2, ty, pos, af, g⟩ e s (EqK (.i (.bool true)) s) :=
  LOp.value (fun _ h => by cases h) fun ac W α S B he hh => ⟨.bool true, by
    obtain ⟨b, o, h1⟩ := hp.some (evalE_rel he hh.glob hx)
    have h2 := (evalE_rel he hh.glob hy).val_inv
    simp only [execOp, h1, h2, Sem.run_bind, run_eqGuard_ptr, Result.andThen_ok, binOp, Op.equal, Sem.run_pure]
    rw [show Op.maxDepth = 9999 + 1 from rfl, run_equalIn_ptr_nil ht]; rfl, .i _ _ (.bool _)⟩

theorem op_eql_nil_nil {t t2 el : TypeId} {x y : Operand} (ht : P.underlying t = some (.pointer el)) (hx : evalE Γ e x = some (.i (.val (.pointer none)))) (hy : evalE Γ e y = some (.i (.val (.pointer none)))) :
    LOp P Γ ⟨d, .binOp .eql t x y t2, ty, pos, af, g⟩ e s (EqK (.i (.bool true)) s) :=
  LOp.value (fun _ h => by cases h) fun ac W α S B he hh => ⟨.bool true, by
    have h1 := (evalE_rel he hh.glob hx).val_inv
    have h2 := (evalE_rel he hh.glob hy).val_inv
    simp only [execOp, h1, h2, Sem.run_bind, run_eqGuard_ptr, Result.andThen_ok, binOp, Op.equal, Sem.run_pure]
    rw [show Op.maxDepth = 9999 + 1 from rfl, run_equalIn_nil_nil ht]; rfl, .i _ _ (.bool _)⟩

theorem op_neq_nil_nil {t t2 el : TypeId} {x y : Operand} (ht : P.underlying t = some (.pointer el)) (hx : evalE Γ e x = some (.i (.val (.pointer none)))) (hy : evalE Γ e y = some (.i (.val (.pointer none)))) :
    LOp P Γ ⟨d, .binOp .neq t x y t2, ty, pos, af, g⟩ e s (EqK (.i (.bool false)) s) :=
  LOp.value (fun _ h => by cases h) fun ac W α S B he hh => ⟨.bool false, by
    have h1 := (evalE_rel he hh.glob hx).val_inv
    have h2 := (evalE_rel he hh.glob hy).val_inv
    simp only [execOp, h1, h2, Sem.run_bind, run_eqGuard_ptr, Result.andThen_ok, binOp, Op.equal, Sem.run_pure]
    rw [show Op.maxDepth = 9999 + 1 from rfl, run_equalIn_nil_nil ht]; rfl, .i _ _ (.bool _)⟩

end
end Go.Ab
