/- A statement whose order is open: one order serves for all, if what only reads yields the same in each world that may come up, and what writes comes up one by one. -/
import Derived.Test.YtkmgbejhbkbaoaaL2
import Derived.Orders
import Derived.OrdersIn
import Derived.RangeFuncCalls
namespace Go.Proofs.Ytkmgbejhbkbaoaa
set_option linter.unusedSimpArgs false
set_option linter.unusedVariables false
open Go.RowKit

section
variable {P : Program} {ops : Array Oper} {C : World → Prop}

theorem put_lit (l : List Value) (ds : List Deferred) (d : Nat) (v : Value) : Act.put ⟨l.toArray, ds⟩ (some d) v = ⟨(l.set d v).toArray, ds⟩ := by simp [Act.put]
theorem put_none (a : Act) (v : Value) : Act.put a none v = a := rfl
/-- one operation, without a panic -/
def StepTo (P : Program) (o : Oper) (a : Act) (w : World) (K : Act → World → Prop) : Prop :=
  match (execOp a.eval o).run P w with
  | .ok (.value v) w' => K (a.put o.dst v) w'
  | .ok .skip w' => K (a.put o.dst undef) w'
  | .ok (.enter f args) w' => Calls P f args w' fun e w'' => ∃ v, e = .returned v ∧ K (a.put o.dst v) w''
  | _ => False
theorem StepTo.mono {o : Oper} {a : Act} {w : World} {K K' : Act → World → Prop} (h : ∀ a w, K a w → K' a w) (hh : StepTo P o a w K) : StepTo P o a w K' := by
  unfold StepTo at *
  split at hh
  · exact h _ _ hh
  · exact h _ _ hh
  · exact hh.mono fun e w'' ⟨v, he, hk⟩ => ⟨v, he, h _ _ hk⟩
  · exact hh.elim
theorem StepTo.wp {o : Oper} {a : Act} {w : World} {K : Act → World → Prop} {Q : Exit → Act → World → Prop} (hh : StepTo P o a w K) : o.wp P a w K Q := by
  unfold StepTo at hh
  unfold Oper.wp
  generalize (execOp a.eval o).run P w = r at *
  cases r with
  | ok x w' =>
    cases x <;> simp only [Oper.upon] at hh ⊢
    all_goals first
      | exact hh
      | exact Calls.mono hh (fun e w'' ⟨v, he, hk⟩ => by subst he; exact hk)
  | halt x w' => simp only [] at hh
theorem StepTo.wpIn {o : Oper} {a : Act} {w : World} {K : Act → World → Prop} {Q : Exit → Act → World → Prop} (l n : Nat) (hd : ∀ c, o.op ≠ .defer c) (hh : StepTo P o a w K) : o.wpIn (Fence.wide.inRound l) n P a w K Q := by
  unfold StepTo at hh
  unfold Oper.wpIn
  refine ⟨fun _ _ => trivial, ?_⟩
  rw [Oper.semAt_eq _ _ _ hd]
  generalize (execOp a.eval o).run P w = r at *
  cases r with
  | ok x w' =>
    cases x <;> simp only [Oper.uponIn] at hh ⊢
    all_goals first
      | exact hh
      | exact ⟨fun h => (by simp [Fence.wide, Fence.inRound] at h), (CallsIn.inRound l (callsIn_wide.2 hh)).mono (fun e w'' ⟨v, he, hk⟩ => by subst he; exact hk)⟩
  | halt x w' => simp only [] at hh

def sOp (P : Program) (ops : Array Oper) (i : Nat) (K : Act → World → Prop) (a : Act) (w : World) : Prop :=
  match ops[i]? with
  | none => K a w
  | some o => if Region.wanted o (yielded ops a.tmps) then StepTo P o a w K else K (a.put o.dst undef) w
theorem sOp_mono {i : Nat} {a : Act} {w : World} {K K' : Act → World → Prop} (h : ∀ a w, K a w → K' a w) (hh : sOp P ops i K a w) : sOp P ops i K' a w := by
  unfold sOp at *
  split
  · exact h _ _ (by simpa [*] using hh)
  · rename_i o ho
    simp only [ho] at hh
    split
    · rename_i hw; simp only [hw, if_true] at hh; exact hh.mono h
    · rename_i hw; simp only [hw] at hh; exact h _ _ hh

/-- in each world of the class the operation yields v, and turns nothing -/
def Quiet (P : Program) (ops : Array Oper) (C : World → Prop) (o : Oper) (v : Value) (a : Act) : Prop :=
  (Region.wanted o (yielded ops a.tmps) = true ∧ ∀ w, C w → (execOp a.eval o).run P w = .ok (.value v) w ∨ ((execOp a.eval o).run P w = .ok .skip w ∧ v = undef)) ∨
  (Region.wanted o (yielded ops a.tmps) = false ∧ v = undef)
theorem Quiet.sOp {i : Nat} {o : Oper} {v : Value} {a : Act} {w : World} (hi : ops[i]? = some o) (hy : Quiet P ops C o v a) (hC : C w) {K : Act → World → Prop} (h : K (a.put o.dst v) w) : sOp P ops i K a w := by
  unfold Go.Proofs.Ytkmgbejhbkbaoaa.sOp
  simp only [hi]
  rcases hy with ⟨hw, hv⟩ | ⟨hw, rfl⟩
  · simp only [hw, if_true]
    unfold StepTo
    rcases hv w hC with h1 | ⟨h1, rfl⟩
    · rw [h1]; exact h
    · rw [h1]; exact h
  · simp only [hw, Bool.false_eq_true, if_false]; exact h
theorem Quiet.of_same {o : Oper} {v : Value} {a a' : Act} (hy : Quiet P ops C o v a) (he : execOp a'.eval o = execOp a.eval o)
    (hw : Region.wanted o (yielded ops a'.tmps) = Region.wanted o (yielded ops a.tmps)) : Quiet P ops C o v a' := by
  unfold Quiet at *
  rw [he, hw]
  exact hy
theorem sOp_put {j : Nat} {oi oj : Oper} {v : Value} (hj : ops[j]? = some oj) (hap : oi.apart ops oj = true)
    (hsi : ∀ cs b, oi.op ≠ .select cs b) (hsj : ∀ cs b, oj.op ≠ .select cs b) {K : Act → World → Prop} {a : Act} {w : World}
    (hy : Quiet P ops C oi v a) (h : sOp P ops j K (a.put oi.dst v) w) :
    sOp P ops j (fun a' w' => Quiet P ops C oi v a' ∧ K (a'.put oi.dst v) w') a w := by
  obtain ⟨h1, h2, h3⟩ := Oper.apart_spec hap
  have keep : ∀ u, Quiet P ops C oi v (a.put oj.dst u) := fun u => hy.of_same (execOp_put oi hsi a oj.dst u h3) (wanted_put oi a oj.dst u h3)
  unfold Go.Proofs.Ytkmgbejhbkbaoaa.sOp at *
  simp only [hj] at *
  rw [wanted_put oj a oi.dst v h1] at h
  split
  · rename_i hw
    simp only [hw, if_true] at h
    unfold StepTo at *
    rw [execOp_put oj hsj a oi.dst v h1] at h
    generalize (execOp a.eval oj).run P w = r at *
    cases r with
    | ok x w' =>
      cases x <;> simp only [] at h ⊢
      case value u => exact ⟨keep u, by rw [← Act.put_comm a v u h2]; exact h⟩
      case skip => exact ⟨keep _, by rw [← Act.put_comm a v undef h2]; exact h⟩
      case enter f args => exact h.mono fun e w'' ⟨u, he, hk⟩ => ⟨u, he, keep u, by rw [← Act.put_comm a v u h2]; exact hk⟩
    | halt x w' => simp only [] at h
  · rename_i hw
    simp only [hw] at h
    exact ⟨keep _, by rw [← Act.put_comm a v undef h2]; exact h⟩

/-- it waits for all others -/
def finB (md : Region.Mode) (ops : Array Oper) (j : Nat) : Bool :=
  match ops[j]? with
  | none => false
  | some o => (List.range ops.size).all fun k => k == j || o.after.any fun e => Region.binds md e && e.on == k
theorem finB_not {md : Region.Mode} {ops : Array Oper} {i j : Nat} {listed : Array Bool} (hj : j ∈ Region.ready md ops listed) (hi : i ∈ Region.ready md ops listed) (hji : j ≠ i) : finB md ops j = false := by
  obtain ⟨hjun, oj, hoj, hall⟩ := mem_ready.1 hj
  obtain ⟨hiun, oi, hoi, _⟩ := mem_ready.1 hi
  cases h : finB md ops j with
  | false => rfl
  | true =>
    simp only [finB, hoj, List.all_eq_true, List.mem_range] at h
    have h1 := h i (Array.getElem?_eq_some_iff.1 hoi).1
    simp only [Bool.or_eq_true, beq_iff_eq, show i ≠ j from fun e => hji e.symm, false_or] at h1
    obtain ⟨e, he, hb⟩ := Array.any_eq_true'.1 h1
    simp only [Bool.and_eq_true, beq_iff_eq] at hb
    have h2 := hall e he hb.1
    rw [hb.2] at h2
    rcases Nat.lt_or_ge i listed.size with h' | h'
    · simp [h'] at hiun h2; rw [h2] at hiun; cases hiun
    · simp [Array.getElem?_eq_none h'] at h2

/-- whatever order is picked, behind each operation the world is of the class -/
def anyC (P : Program) (md : Region.Mode) (ops : Array Oper) (C : World → Prop) (Q : Act → World → Prop) : Nat → Array Bool → Act → World → Prop
  | 0, listed, a, w => Region.ready md ops listed = [] ∧ Q a w
  | fuel + 1, listed, a, w =>
    (Region.ready md ops listed = [] → Q a w) ∧
    ∀ i ∈ Region.ready md ops listed, sOp P ops i (fun a' w' => (finB md ops i = false → C w') ∧ anyC P md ops C Q fuel (listed.setIfInBounds i true) a' w') a w

theorem anyC_first {md : Region.Mode} {Q : Act → World → Prop} {i : Nat} {oi : Oper} {v : Value} (hi : ops[i]? = some oi) (hsel : ∀ (j : Nat) (o : Oper) cs b, ops[j]? = some o → o.op ≠ .select cs b) :
    ∀ (fuel : Nat) (listed : Array Bool) (a : Act) (w : World),
      (∀ j oj, ops[j]? = some oj → j ≠ i → listed.getD j true = false → (∀ e ∈ oj.after, Region.binds md e = true → e.on ≠ i) → oi.apart ops oj = true) →
      i ∈ Region.ready md ops listed → Quiet P ops C oi v a → C w →
      anyC P md ops C Q fuel (listed.setIfInBounds i true) (a.put oi.dst v) w → anyC P md ops C Q (fuel + 1) listed a w := by
  intro fuel
  induction fuel with
  | zero =>
    intro listed a w _ hr hy hC H
    refine ⟨fun h => (by rw [h] at hr; cases hr), fun j hj => ?_⟩
    by_cases hji : j = i
    · subst hji; exact hy.sOp hi hC ⟨fun _ => hC, H⟩
    · have := ready_mono hj hji
      rw [H.1] at this
      cases this
  | succ fuel ih =>
    intro listed a w hfree hr hy hC H
    refine ⟨fun h => (by rw [h] at hr; cases hr), fun j hj => ?_⟩
    by_cases hji : j = i
    · subst hji; exact hy.sOp hi hC ⟨fun _ => hC, H⟩
    · have h1 := H.2 j (ready_mono hj hji)
      obtain ⟨hjun, oj, hoj, hall⟩ := mem_ready.1 hj
      have hnot : ∀ e ∈ oj.after, Region.binds md e = true → e.on ≠ i := fun e he hb heq => by
        have h1 := hall e he hb
        have h0 := (mem_ready.1 hr).1
        rw [heq] at h1
        rcases Nat.lt_or_ge i listed.size with h' | h'
        · simp [h'] at h0 h1; rw [h0] at h1; cases h1
        · simp [Array.getElem?_eq_none h'] at h1
      have h2 := sOp_put hoj (hfree j oj hoj hji hjun hnot) (fun cs b => hsel i oi cs b hi) (fun cs b => hsel j oj cs b hoj) hy h1
      have hfree' : ∀ k ok, ops[k]? = some ok → k ≠ i → (listed.setIfInBounds j true).getD k true = false →
          (∀ e ∈ ok.after, Region.binds md e = true → e.on ≠ i) → oi.apart ops ok = true := fun k ok hk hki hun hno => by
        refine hfree k ok hk hki ?_ hno
        by_cases hjk : j = k
        · subst hjk; exact hjun
        · rw [getD_set_ne true hjk] at hun; exact hun
      have hfin := finB_not hj hr hji
      refine sOp_mono (fun a' w' h3 => ⟨h3.2.1, ih (listed.setIfInBounds j true) a' w' hfree' (ready_mono hr (Ne.symm hji)) h3.1 (h3.2.1 hfin) ?_⟩) h2
      rw [Array.setIfInBounds_comm _ _ hji]
      exact h3.2.2

theorem anyC_plain {md : Region.Mode} {Q : Act → World → Prop} {Q' : Exit → Act → World → Prop} (hQ : ∀ a w, Q a w → Q' .normal a w) : ∀ (fuel : Nat) (listed : Array Bool) (a : Act) (w : World),
    anyC P md ops C Q fuel listed a w → wpAny P md ops Q' fuel listed a w
  | 0, _, _, _, h => ⟨h.1, hQ _ _ h.2⟩
  | fuel + 1, listed, a, w, h => ⟨fun h0 => hQ _ _ (h.1 h0), fun i hi => by
      have h1 := sOp_mono (fun a' w' h3 => anyC_plain hQ fuel _ a' w' h3.2) (h.2 i hi)
      unfold sOp at h1
      unfold wpOp
      split
      · rename_i ho; simpa only [ho] using h1
      · rename_i o ho
        simp only [ho] at h1
        split
        · rename_i hw; simp only [hw, if_true] at h1; exact .inl h1.wp
        · rename_i hw; simp only [hw] at h1; exact h1⟩
theorem anyC_in {md : Region.Mode} {Q : Act → World → Prop} {Q' : Exit → Act → World → Prop} (l n : Nat) (hd : ∀ (j : Nat) (o : Oper) c, ops[j]? = some o → o.op ≠ .defer c) (hQ : ∀ a w, Q a w → Q' .normal a w) : ∀ (fuel : Nat) (listed : Array Bool) (a : Act) (w : World),
    anyC P md ops C Q fuel listed a w → wpAnyIn (Fence.wide.inRound l) n P md ops Q' fuel listed a w
  | 0, _, _, _, h => ⟨h.1, hQ _ _ h.2⟩
  | fuel + 1, listed, a, w, h => ⟨fun h0 => hQ _ _ (h.1 h0), fun i hi => by
      have h1 := sOp_mono (fun a' w' h3 => anyC_in l n hd hQ fuel _ a' w' h3.2) (h.2 i hi)
      unfold sOp at h1
      unfold wpOpIn
      split
      · rename_i ho; simpa only [ho] using h1
      · rename_i o ho
        simp only [ho] at h1
        split
        · rename_i hw; simp only [hw, if_true] at h1; exact h1.wpIn l n (fun c => hd i o c ho)
        · rename_i hw; simp only [hw] at h1; exact ⟨fun _ _ => trivial, h1⟩⟩

/-- one order: what only reads (true), what does something (false) -/
def lexW (P : Program) (ops : Array Oper) (C : World → Prop) (Q : Act → World → Prop) : List (Nat × Bool) → Act → World → Prop
  | [], a, w => Q a w
  | (i, true) :: r, a, w => ∃ o, ops[i]? = some o ∧ ∃ v, Quiet P ops C o v a ∧ lexW P ops C Q r (a.put o.dst v) w
  | (i, false) :: r, a, w => sOp P ops i (fun a' w' => (r ≠ [] → C w') ∧ lexW P ops C Q r a' w') a w
def lexOk (ops : Array Oper) : List (Nat × Bool) → Array Bool → Bool
  | [], listed => Region.ready .any ops listed == []
  | (i, true) :: r, listed => (Region.ready .any ops listed).contains i && Region.free .any ops listed i && lexOk ops r (listed.setIfInBounds i true)
  | (i, false) :: r, listed => Region.ready .any ops listed == [i] && (!r.isEmpty || finB .any ops i) && lexOk ops r (listed.setIfInBounds i true)
theorem anyC_lex {Q : Act → World → Prop} (hs : Region.noSelect ops = true) : ∀ (r : List (Nat × Bool)) (listed : Array Bool) (a : Act) (w : World), lexOk ops r listed = true → C w →
    lexW P ops C Q r a w → anyC P .any ops C Q r.length listed a w
  | [], _, _, _, hB, _, h => ⟨by simpa [lexOk] using hB, h⟩
  | (i, true) :: r, listed, a, w, hB, hC, h => by
    simp only [lexOk, Bool.and_eq_true] at hB
    obtain ⟨⟨hr, hf⟩, hB'⟩ := hB
    obtain ⟨o, ho, v, hq, h'⟩ := h
    exact anyC_first ho (Region.noSelect_spec hs) r.length listed a w (Region.free_spec ho hf) (by simpa using hr) hq hC (anyC_lex hs r _ _ _ hB' hC h')
  | (i, false) :: r, listed, a, w, hB, hC, h => by
    simp only [lexOk, Bool.and_eq_true, beq_iff_eq] at hB
    obtain ⟨⟨hr, hf⟩, hB'⟩ := hB
    refine ⟨fun h0 => (by rw [hr] at h0; cases h0), fun j hj => ?_⟩
    rw [hr, List.mem_singleton] at hj
    subst hj
    refine sOp_mono (fun a' w' h3 => ?_) h
    cases r with
    | nil =>
      simp at hf
      exact ⟨fun h4 => (by rw [hf] at h4; cases h4), by simpa [lexOk] using hB', h3.2⟩
    | cons x r => exact ⟨fun _ => h3.1 (by simp), anyC_lex hs _ _ _ _ hB' (h3.1 (by simp)) h3.2⟩
def lexAll (ops : Array Oper) (r : List (Nat × Bool)) : Bool :=
  Region.noSelect ops && r.length == ops.size && lexOk ops r (Array.replicate ops.size false) && ops.all fun o => match o.op with | .defer _ => false | _ => true

theorem lex_quiet {opl : List Oper} {Q : Act → World → Prop} {i : Nat} {r : List (Nat × Bool)} {a : Act} {w : World} {o : Oper} (v : Value) (ho' : opl[i]? = some o) (hg : Region.wanted o (yielded opl.toArray a.tmps) = true)
    (hq : ∀ w, C w → (execOp a.eval o).run P w = .ok (.value v) w) (hk : lexW P opl.toArray C Q r (a.put o.dst v) w) : lexW P opl.toArray C Q ((i, true) :: r) a w :=
  have ho : opl.toArray[i]? = some o := by simpa using ho'
  ⟨o, ho, v, .inl ⟨hg, fun w hw => .inl (hq w hw)⟩, hk⟩
theorem lex_skip {opl : List Oper} {Q : Act → World → Prop} {i : Nat} {r : List (Nat × Bool)} {a : Act} {w : World} {o : Oper} (ho' : opl[i]? = some o) (hg : Region.wanted o (yielded opl.toArray a.tmps) = false)
    (hk : lexW P opl.toArray C Q r (a.put o.dst undef) w) : lexW P opl.toArray C Q ((i, true) :: r) a w :=
  have ho : opl.toArray[i]? = some o := by simpa using ho'
  ⟨o, ho, undef, .inr ⟨hg, rfl⟩, hk⟩
theorem lex_eff {opl : List Oper} {Q : Act → World → Prop} {i : Nat} {r : List (Nat × Bool)} {a : Act} {w w' : World} {o : Oper} (v : Value) (ho' : opl[i]? = some o) (hg : Region.wanted o (yielded opl.toArray a.tmps) = true)
    (hq : (execOp a.eval o).run P w = .ok (.value v) w') (hC : r ≠ [] → C w') (hk : lexW P opl.toArray C Q r (a.put o.dst v) w') : lexW P opl.toArray C Q ((i, false) :: r) a w := by
  have ho : opl.toArray[i]? = some o := by simpa using ho'
  show sOp P opl.toArray i _ a w
  unfold sOp
  simp only [ho, hg, if_true]
  unfold StepTo
  rw [hq]
  exact ⟨hC, hk⟩
theorem lex_eff0 {opl : List Oper} {Q : Act → World → Prop} {i : Nat} {r : List (Nat × Bool)} {a : Act} {w w' : World} {o : Oper} (ho' : opl[i]? = some o) (hg : Region.wanted o (yielded opl.toArray a.tmps) = true)
    (hq : (execOp a.eval o).run P w = .ok .skip w') (hC : r ≠ [] → C w') (hk : lexW P opl.toArray C Q r (a.put o.dst undef) w') : lexW P opl.toArray C Q ((i, false) :: r) a w := by
  have ho : opl.toArray[i]? = some o := by simpa using ho'
  show sOp P opl.toArray i _ a w
  unfold sOp
  simp only [ho, hg, if_true]
  unfold StepTo
  rw [hq]
  exact ⟨hC, hk⟩
theorem lex_call {opl : List Oper} {Q : Act → World → Prop} {i : Nat} {r : List (Nat × Bool)} {a : Act} {w w' : World} {o : Oper} {f : FuncId} {args : Array Value} (ho' : opl[i]? = some o) (hg : Region.wanted o (yielded opl.toArray a.tmps) = true)
    (hq : (execOp a.eval o).run P w = .ok (.enter f args) w') (hc : Calls P f args w' fun e w'' => ∃ v, e = .returned v ∧ (r ≠ [] → C w'') ∧ lexW P opl.toArray C Q r (a.put o.dst v) w'') : lexW P opl.toArray C Q ((i, false) :: r) a w := by
  have ho : opl.toArray[i]? = some o := by simpa using ho'
  show sOp P opl.toArray i _ a w
  unfold sOp
  simp only [ho, hg, if_true]
  unfold StepTo
  rw [hq]
  exact hc
theorem lex_append {opl : List Oper} {Q : Act → World → Prop} {α : Type} {d : Kd α} {i : Nat} {r : List (Nat × Bool)} {a : Act} {w : World} {o : Oper} (ho' : opl[i]? = some o) (hg : Region.wanted o (yielded opl.toArray a.tmps) = true) (s x : Operand) (t : TypeId) {e : TypeId} {bytes : Nat}
    (hop : o.op = .call { callee := .builtin .append, args := #[s, x], argTypes := #[t, t] })
    {S : List Nat} {v xv : Value} {xs ys : List α} (he : EI P t e d.sz bytes) (hs : a.eval s = v) (h : SlR d e w S v xs) (hxv : a.eval x = xv) (news : List Value) (Sy : List (List Nat))
    (hy : Elems d w Sy news ys) (hl : news.length = ys.length * d.sz) (h1 : ∀ u ∈ news, u.oneCell' = true) (hx : Src w xv ys.length news) (hdis : ∀ k ∈ Sy.flatten, k ∉ S)
    (h63 : xs.length + ys.length ≤ maxLen) (hb : (xs.length + ys.length) * bytes ≤ 140737488355328)
    (hk : ∀ v' w' S', SlR d e w' S' v' (xs ++ ys) → Ext S w w' → (∀ k ∈ S', k ∈ S ∨ k = w.heap.size ∨ k ∈ Sy.flatten) → (S.Nodup → Sy.flatten.Nodup → S'.Nodup) → (r ≠ [] → C w') ∧ lexW P opl.toArray C Q r (a.put o.dst v') w') :
    lexW P opl.toArray C Q ((i, false) :: r) a w := by
  obtain ⟨v', w', S', hr, h2, h3, h4, h5⟩ := run_append_sl (ty := o.type) he h xv news Sy hy hl h1 hx hdis h63 hb
  have := hk v' w' S' h2 h3 h4 h5
  refine lex_eff v' ho' hg ?_ this.1 this.2
  unfold execOp
  simp only [hop, resolve, invoke, builtin, Sem.run_bind, Sem.run_pure, Result.andThen_ok, List.map_toArray, List.map_cons, List.map_nil, hs, hxv, hr]

/-- the region, in whatever order -/
theorem wp_region_lex {id : Nat} {Q : Exit → Act → World → Prop} {a : Act} {w : World} (C : World → Prop) (r : List (Nat × Bool)) (hm : P.follows .mixedOrders = true) (hB : lexAll ops r = true) (hC : C w.drew)
    (h : lexW P ops C (Q .normal) r a w.drew) : (Code.region id ops true).wp P Q a w := by
  simp only [lexAll, Bool.and_eq_true, beq_iff_eq] at hB
  refine wp_region_any hm ?_
  have := anyC_lex hB.1.1.1 r _ a w.drew hB.1.2 hC h
  rw [hB.1.1.2] at this
  exact anyC_plain (fun _ _ h => h) _ _ _ _ this
theorem wpIn_region_lex {id : Nat} {Q : Exit → Act → World → Prop} {a : Act} {w : World} {l n : Nat} (C : World → Prop) (r : List (Nat × Bool)) (hm : P.follows .mixedOrders = true) (hB : lexAll ops r = true) (hC : C w.drew)
    (h : lexW P ops C (Q .normal) r a w.drew) : (Code.region id ops true).wpIn (Fence.wide.inRound l) n P Q a w := by
  simp only [lexAll, Bool.and_eq_true, beq_iff_eq] at hB
  refine wpIn_region_any hm ?_
  have := anyC_lex hB.1.1.1 r _ a w.drew hB.1.2 hC h
  rw [hB.1.1.2] at this
  refine anyC_in l n (fun j o c ho heq => ?_) (fun _ _ h => h) _ _ _ _ this
  have := Array.all_eq_true_iff_forall_mem.1 hB.2 o (Array.mem_of_getElem? ho)
  simp [heq] at this
end
end Go.Proofs.Ytkmgbejhbkbaoaa
