/- A statement whose order is open: ways that part, and a last operation that may end in a panic. -/
import Derived.Test.YtkmgbejhbkbaoaaL3
namespace Go.Proofs.Ytkmgbejhbkbaoaa
set_option linter.unusedSimpArgs false
set_option linter.unusedVariables false
open Go.RowKit

section
variable {P : Program} {ops : Array Oper} {C : World → Prop} {Q : Exit → Act → World → Prop}

/-- the last operation: it may panic -/
def wOp (P : Program) (ops : Array Oper) (Q : Exit → Act → World → Prop) (i : Nat) (a : Act) (w : World) : Prop :=
  match ops[i]? with
  | none => Q .normal a w
  | some o => if Region.wanted o (yielded ops a.tmps) then o.wp P a w (Q .normal) Q else Q .normal (a.put o.dst undef) w

/-- what must have come up ahead -/
inductive Path (md : Region.Mode) (ops : Array Oper) (f : Nat) : Nat → Prop
  | one {o : Oper} {e : Edge} : ops[f]? = some o → e ∈ o.after → Region.binds md e = true → Path md ops f e.on
  | step {k : Nat} {o : Oper} {e : Edge} : Path md ops f k → ops[k]? = some o → e ∈ o.after → Region.binds md e = true → Path md ops f e.on
def Closed (md : Region.Mode) (ops : Array Oper) (listed : Array Bool) : Prop :=
  ∀ k o, ops[k]? = some o → listed.getD k false = true → ∀ e ∈ o.after, Region.binds md e = true → listed.getD e.on false = true
/-- the one that may panic waits for all others -/
def Last (md : Region.Mode) (ops : Array Oper) (f : Option Nat) : Prop := ∀ i, f = some i → ∀ k, k < ops.size → k ≠ i → Path md ops i k
theorem getD_flip {listed : Array Bool} {k : Nat} (hk : k < listed.size) : listed.getD k true = listed.getD k false := by simp [hk]
theorem last_all {md : Region.Mode} {i : Nat} {f : Option Nat} {listed : Array Bool} (hl : Last md ops f) (hc : Closed md ops listed) (hi : i ∈ Region.ready md ops listed) (hf : f = some i) {k : Nat} (hk : k < ops.size) (hki : k ≠ i) : listed.getD k false = true := by
  obtain ⟨_, o, ho, hall⟩ := mem_ready.1 hi
  have := hl i hf k hk hki
  clear hk hki
  induction this with
  | one ho' he hb =>
    rw [ho] at ho'; cases ho'
    exact hall _ he hb
  | step _ ho' he hb ih => exact hc _ _ ho' ih _ he hb
theorem closed_set {md : Region.Mode} {i : Nat} {listed : Array Bool} (hc : Closed md ops listed) (hi : i ∈ Region.ready md ops listed) : Closed md ops (listed.setIfInBounds i true) := by
  obtain ⟨_, o, ho, hall⟩ := mem_ready.1 hi
  have key : ∀ k, listed.getD k false = true → (listed.setIfInBounds i true).getD k false = true := fun k h => by
    by_cases hk : i = k
    · subst hk
      rcases Nat.lt_or_ge i listed.size with h' | h'
      · simp [h']
      · simp [Array.getElem?_eq_none h'] at h
    · simpa [Array.getElem?_setIfInBounds_ne hk] using h
  intro k ok hok hk e he hb
  by_cases hki : i = k
  · subst hki
    rw [ho] at hok; cases hok
    exact key _ (hall e he hb)
  · exact key _ (hc k ok hok (by simpa [Array.getElem?_setIfInBounds_ne hki] using hk) e he hb)
theorem last_not {md : Region.Mode} {i j : Nat} {f : Option Nat} {listed : Array Bool} (hl : Last md ops f) (hc : Closed md ops listed) (hj : j ∈ Region.ready md ops listed) (hi : i ∈ Region.ready md ops listed) (hji : j ≠ i) : f ≠ some j := by
  intro hf
  obtain ⟨hiun, oi, hoi, _⟩ := mem_ready.1 hi
  have h1 := last_all hl hc hj hf (Array.getElem?_eq_some_iff.1 hoi).1 (fun e => hji e.symm)
  rcases Nat.lt_or_ge i listed.size with h' | h'
  · simp [h'] at hiun h1; rw [h1] at hiun; cases hiun
  · simp [Array.getElem?_eq_none h'] at h1

def anyF (P : Program) (md : Region.Mode) (ops : Array Oper) (f : Option Nat) (C : World → Prop) (Q : Exit → Act → World → Prop) : Nat → Array Bool → Act → World → Prop
  | 0, listed, a, w => Region.ready md ops listed = [] ∧ Q .normal a w
  | fuel + 1, listed, a, w =>
    (Region.ready md ops listed = [] → Q .normal a w) ∧
    ∀ i ∈ Region.ready md ops listed, (f = some i → wOp P ops Q i a w) ∧ (f ≠ some i → sOp P ops i (fun a' w' => C w' ∧ anyF P md ops f C Q fuel (listed.setIfInBounds i true) a' w') a w)

theorem fin_ready {md : Region.Mode} {i : Nat} {f : Option Nat} {listed : Array Bool} (hl : Last md ops f) (hc : Closed md ops listed) (hi : i ∈ Region.ready md ops listed) (hf : f = some i) : Region.ready md ops (listed.setIfInBounds i true) = [] := by
  obtain ⟨hun, o, ho, hall⟩ := mem_ready.1 hi
  refine List.eq_nil_iff_forall_not_mem.2 fun k hk => ?_
  obtain ⟨hkun, ok, hok, _⟩ := mem_ready.1 hk
  by_cases hki : k = i
  · subst hki
    rcases Nat.lt_or_ge k listed.size with h' | h'
    · simp [h'] at hkun
    · simp [Array.getElem?_eq_none h'] at hun
  · rw [getD_set_ne true (fun e => hki e.symm)] at hkun
    have h2 := last_all hl hc hi hf (Array.getElem?_eq_some_iff.1 hok).1 hki
    rcases Nat.lt_or_ge k listed.size with h' | h'
    · simp [h'] at hkun h2; rw [h2] at hkun; cases hkun
    · simp [Array.getElem?_eq_none h'] at h2

theorem anyF_first {md : Region.Mode} {f : Option Nat} {i : Nat} {oi : Oper} {v : Value} (hl : Last md ops f) (hi : ops[i]? = some oi) (hnf : f ≠ some i) (hsel : ∀ (j : Nat) (o : Oper) cs b, ops[j]? = some o → o.op ≠ .select cs b) :
    ∀ (fuel : Nat) (listed : Array Bool) (a : Act) (w : World), Closed md ops listed →
      (∀ j oj, ops[j]? = some oj → j ≠ i → listed.getD j true = false → (∀ e ∈ oj.after, Region.binds md e = true → e.on ≠ i) → oi.apart ops oj = true) →
      i ∈ Region.ready md ops listed → Quiet P ops C oi v a → C w →
      anyF P md ops f C Q fuel (listed.setIfInBounds i true) (a.put oi.dst v) w → anyF P md ops f C Q (fuel + 1) listed a w := by
  intro fuel
  induction fuel with
  | zero =>
    intro listed a w hc _ hr hy hC H
    refine ⟨fun h => (by rw [h] at hr; cases hr), fun j hj => ?_⟩
    by_cases hji : j = i
    · subst hji; exact ⟨fun h => absurd h hnf, fun _ => hy.sOp hi hC ⟨hC, H⟩⟩
    · have := ready_mono hj hji
      rw [H.1] at this
      cases this
  | succ fuel ih =>
    intro listed a w hc hfree hr hy hC H
    refine ⟨fun h => (by rw [h] at hr; cases hr), fun j hj => ?_⟩
    by_cases hji : j = i
    · subst hji; exact ⟨fun h => absurd h hnf, fun _ => hy.sOp hi hC ⟨hC, H⟩⟩
    · have hfin := last_not hl hc hj hr hji
      refine ⟨fun h => absurd h hfin, fun _ => ?_⟩
      have h1 := (H.2 j (ready_mono hj hji)).2 hfin
      obtain ⟨hjun, oj, hoj, hall⟩ := mem_ready.1 hj
      have hnot : ∀ e ∈ oj.after, Region.binds md e = true → e.on ≠ i := fun e he hb heq => by
        have h1 := hall e he hb
        have h0 := (mem_ready.1 hr).1
        rw [heq] at h1
        rcases Nat.lt_or_ge i listed.size with h' | h'
        · simp [h'] at h0 h1; rw [h0] at h1; cases h1
        · simp [Array.getElem?_eq_none h'] at h1
      have h2 := sOp_put hoj (hfree j oj hoj hji hjun hnot) (fun cs b => hsel i oi cs b hi) (fun cs b => hsel j oj cs b hoj) hy h1
      have hfree' : ∀ k ok, ops[k]? = some ok → k ≠ i → (listed.setIfInBounds j true).getD k true = false →
          (∀ e ∈ ok.after, Region.binds md e = true → e.on ≠ i) → oi.apart ops ok = true := fun k ok hk hki hun hno => by
        refine hfree k ok hk hki ?_ hno
        by_cases hjk : j = k
        · subst hjk; exact hjun
        · rw [getD_set_ne true hjk] at hun; exact hun
      refine sOp_mono (fun a' w' h3 => ⟨h3.2.1, ih (listed.setIfInBounds j true) a' w' (closed_set hc hj) hfree' (ready_mono hr (Ne.symm hji)) h3.1 h3.2.1 ?_⟩) h2
      rw [Array.setIfInBounds_comm _ _ hji]
      exact h3.2.2

theorem anyF_plain {md : Region.Mode} {f : Option Nat} (hl : Last md ops f) : ∀ (fuel : Nat) (listed : Array Bool) (a : Act) (w : World), Closed md ops listed →
    anyF P md ops f C Q fuel listed a w → wpAny P md ops Q fuel listed a w
  | 0, _, _, _, _, h => h
  | fuel + 1, listed, a, w, hc, h => ⟨h.1, fun i hi => by
      have h1 := h.2 i hi
      by_cases hf : f = some i
      · have h2 := h1.1 hf
        have h3 := fin_ready hl hc hi hf
        have hK : ∀ a w, Q .normal a w → wpAny P md ops Q fuel (listed.setIfInBounds i true) a w := fun a w hq => by
          cases fuel with
          | zero => exact ⟨h3, hq⟩
          | succ fuel => exact ⟨fun _ => hq, fun k hk => by rw [h3] at hk; cases hk⟩
        unfold wOp at h2
        unfold wpOp
        split
        · rename_i ho; exact hK _ _ (by simpa only [ho] using h2)
        · rename_i o ho
          simp only [ho] at h2
          split
          · rename_i hw; simp only [hw, if_true] at h2; exact .inl (Oper.wp_mono hK h2)
          · rename_i hw; simp only [hw] at h2; exact hK _ _ h2
      · have h2 := sOp_mono (fun a' w' h3 => anyF_plain hl fuel _ a' w' (closed_set hc hi) h3.2) (h1.2 hf)
        unfold sOp at h2
        unfold wpOp
        split
        · rename_i ho; simpa only [ho] using h2
        · rename_i o ho
          simp only [ho] at h2
          split
          · rename_i hw; simp only [hw, if_true] at h2; exact .inl h2.wp
          · rename_i hw; simp only [hw] at h2; exact h2⟩

/-- a way through: what only reads, what does something, two that may change places, the last one -/
inductive Rt
  | nil
  | q (i : Nat) (r : Rt)
  | e (i : Nat) (r : Rt)
  | b (i : Nat) (r : Rt) (j : Nat) (s : Rt)
  | fin (i : Nat)
def Rt.len : Rt → Nat
  | .nil => 0
  | .q _ r => r.len + 1
  | .e _ r => r.len + 1
  | .b _ r _ _ => r.len + 1
  | .fin _ => 1
def Rt.last : Rt → Option Nat
  | .nil => none
  | .q _ r => r.last
  | .e _ r => r.last
  | .b _ r _ _ => r.last
  | .fin i => some i
def rtW (P : Program) (ops : Array Oper) (C : World → Prop) (Q : Exit → Act → World → Prop) : Rt → Act → World → Prop
  | .nil, a, w => Q .normal a w
  | .q i r, a, w => ∃ o, ops[i]? = some o ∧ ∃ v, Quiet P ops C o v a ∧ rtW P ops C Q r (a.put o.dst v) w
  | .e i r, a, w => sOp P ops i (fun a' w' => C w' ∧ rtW P ops C Q r a' w') a w
  | .b i r j s, a, w => sOp P ops i (fun a' w' => C w' ∧ rtW P ops C Q r a' w') a w ∧ sOp P ops j (fun a' w' => C w' ∧ rtW P ops C Q s a' w') a w
  | .fin i, a, w => wOp P ops Q i a w
def rtOk (ops : Array Oper) (f : Option Nat) : Rt → Array Bool → Bool
  | .nil, listed => Region.ready .any ops listed == []
  | .q i r, listed => (Region.ready .any ops listed).contains i && Region.free .any ops listed i && (f != some i) && rtOk ops f r (listed.setIfInBounds i true)
  | .e i r, listed => Region.ready .any ops listed == [i] && (f != some i) && rtOk ops f r (listed.setIfInBounds i true)
  | .b i r j s, listed => Region.ready .any ops listed == [i, j] && (f != some i) && (f != some j) && (s.len == r.len) && rtOk ops f r (listed.setIfInBounds i true) && rtOk ops f s (listed.setIfInBounds j true)
  | .fin i, listed => Region.ready .any ops listed == [i] && (f == some i)
theorem anyF_rt {f : Option Nat} (hl : Last .any ops f) (hs : Region.noSelect ops = true) : ∀ (r : Rt) (listed : Array Bool) (a : Act) (w : World), Closed .any ops listed → rtOk ops f r listed = true → C w →
    rtW P ops C Q r a w → anyF P .any ops f C Q r.len listed a w
  | .nil, listed, a, w, _, hB, _, h => ⟨by simpa [rtOk] using hB, h⟩
  | .q i r, listed, a, w, hc, hB, hC, h => by
    simp only [rtOk, Bool.and_eq_true, bne_iff_ne] at hB
    obtain ⟨⟨⟨hr, hf⟩, hn⟩, hB'⟩ := hB
    obtain ⟨o, ho, v, hq, h'⟩ := h
    have hr' : i ∈ Region.ready .any ops listed := by simpa using hr
    exact anyF_first hl ho hn (Region.noSelect_spec hs) r.len listed a w hc (Region.free_spec ho hf) hr' hq hC (anyF_rt hl hs r _ _ _ (closed_set hc hr') hB' hC h')
  | .e i r, listed, a, w, hc, hB, hC, h => by
    simp only [rtOk, Bool.and_eq_true, beq_iff_eq, bne_iff_ne] at hB
    obtain ⟨⟨hr, hn⟩, hB'⟩ := hB
    refine ⟨fun h0 => (by rw [hr] at h0; cases h0), fun j hj => ?_⟩
    have hj' := hj
    rw [hr, List.mem_singleton] at hj
    subst hj
    exact ⟨fun h => absurd h hn, fun _ => sOp_mono (fun a' w' h3 => ⟨h3.1, anyF_rt hl hs r _ _ _ (closed_set hc hj') hB' h3.1 h3.2⟩) h⟩
  | .b i r j s, listed, a, w, hc, hB, hC, h => by
    simp only [rtOk, Bool.and_eq_true, beq_iff_eq, bne_iff_ne] at hB
    obtain ⟨⟨⟨⟨⟨hr, hn⟩, hn2⟩, hlen⟩, hB'⟩, hB2⟩ := hB
    refine ⟨fun h0 => (by rw [hr] at h0; cases h0), fun k hk => ?_⟩
    have hk' := hk
    rw [hr] at hk
    simp only [List.mem_cons, List.not_mem_nil, or_false] at hk
    rcases hk with rfl | rfl
    · exact ⟨fun h => absurd h hn, fun _ => sOp_mono (fun a' w' h3 => ⟨h3.1, anyF_rt hl hs r _ _ _ (closed_set hc hk') hB' h3.1 h3.2⟩) h.1⟩
    · refine ⟨fun h => absurd h hn2, fun _ => sOp_mono (fun a' w' h3 => ⟨h3.1, ?_⟩) h.2⟩
      have := anyF_rt hl hs s _ _ _ (closed_set hc hk') hB2 h3.1 h3.2
      rwa [hlen] at this
  | .fin i, listed, a, w, hc, hB, hC, h => by
    simp only [rtOk, Bool.and_eq_true, beq_iff_eq] at hB
    obtain ⟨hr, hn⟩ := hB
    refine ⟨fun h0 => (by rw [hr] at h0; cases h0), fun k hk => ?_⟩
    rw [hr, List.mem_singleton] at hk
    subst hk
    exact ⟨fun _ => h, fun h => absurd hn h⟩
/-- what the last one waits for -/
def needs (ops : Array Oper) (f : Nat) : Nat → List Nat → List Nat
  | 0, l => l
  | k + 1, l => needs ops f k (if k == f || l.contains k then l ++ (match ops[k]? with | some o => (o.after.toList.filter (Region.binds .any)).map (·.on) | none => []) else l)
theorem needs_path {f : Nat} : ∀ (k : Nat) (l : List Nat), (∀ x ∈ l, Path .any ops f x) → ∀ x ∈ needs ops f k l, Path .any ops f x
  | 0, l, h => h
  | k + 1, l, h => by
    unfold needs
    refine needs_path k _ fun x hx => ?_
    split at hx
    · rename_i hk
      rcases List.mem_append.1 hx with hx | hx
      · exact h x hx
      · split at hx
        · rename_i o ho
          obtain ⟨e, he, rfl⟩ := List.mem_map.1 hx
          obtain ⟨he, hb⟩ := List.mem_filter.1 he
          have he' : e ∈ o.after := by simpa using he
          by_cases hkf : k = f
          · subst hkf; exact .one ho he' hb
          · have : k ∈ l := by
              simp only [Bool.or_eq_true, beq_iff_eq, hkf, false_or] at hk
              simpa using hk
            exact .step (h k this) ho he' hb
        · cases hx
    · exact h x hx
def lastB (ops : Array Oper) : Option Nat → Bool
  | none => true
  | some f => let l := needs ops f ops.size []
    (List.range ops.size).all fun k => k == f || l.contains k
theorem last_of {f : Option Nat} (h : lastB ops f = true) : Last .any ops f := by
  rintro i rfl k hk hki
  simp only [lastB, List.all_eq_true, List.mem_range, Bool.or_eq_true, beq_iff_eq] at h
  rcases h k hk with h | h
  · exact absurd h hki
  · exact needs_path ops.size [] (by simp) k (by simpa using h)
def rtAll (ops : Array Oper) (r : Rt) : Bool :=
  Region.noSelect ops && r.len == ops.size && rtOk ops r.last r (Array.replicate ops.size false) && lastB ops r.last && ops.all fun o => match o.op with | .defer _ => false | _ => true
theorem closed_none (md : Region.Mode) (ops : Array Oper) (n : Nat) : Closed md ops (Array.replicate n false) := by
  intro k o _ hk
  exfalso
  simp only [Array.getD_eq_getD_getElem?, Array.getElem?_replicate] at hk
  split at hk <;> simp at hk
theorem wp_region_rt {id : Nat} {a : Act} {w : World} (C : World → Prop) (r : Rt) (hm : P.follows .mixedOrders = true) (hB : rtAll ops r = true) (hC : C w.drew)
    (h : rtW P ops C Q r a w.drew) : (Code.region id ops true).wp P Q a w := by
  simp only [rtAll, Bool.and_eq_true, beq_iff_eq] at hB
  refine wp_region_any hm ?_
  have hl := last_of hB.1.2
  have := anyF_rt hl hB.1.1.1.1 r _ a w.drew (closed_none _ _ _) hB.1.1.2 hC h
  rw [hB.1.1.1.2] at this
  exact anyF_plain hl _ _ _ _ (closed_none _ _ _) this
end

section
variable {P : Program} {opl : List Oper} {C : World → Prop} {Q : Exit → Act → World → Prop} {i : Nat} {r : Rt} {a : Act} {w w' : World} {o : Oper}
theorem rt_quiet (v : Value) (ho' : opl[i]? = some o) (hg : Region.wanted o (yielded opl.toArray a.tmps) = true)
    (hq : ∀ w, C w → (execOp a.eval o).run P w = .ok (.value v) w) (hk : rtW P opl.toArray C Q r (a.put o.dst v) w) : rtW P opl.toArray C Q (.q i r) a w :=
  have ho : opl.toArray[i]? = some o := by simpa using ho'
  ⟨o, ho, v, .inl ⟨hg, fun w hw => .inl (hq w hw)⟩, hk⟩
theorem rt_skip (ho' : opl[i]? = some o) (hg : Region.wanted o (yielded opl.toArray a.tmps) = false)
    (hk : rtW P opl.toArray C Q r (a.put o.dst undef) w) : rtW P opl.toArray C Q (.q i r) a w :=
  have ho : opl.toArray[i]? = some o := by simpa using ho'
  ⟨o, ho, undef, .inr ⟨hg, rfl⟩, hk⟩
theorem s_skip {K : Act → World → Prop} (ho' : opl[i]? = some o) (hg : Region.wanted o (yielded opl.toArray a.tmps) = false) (hk : K (a.put o.dst undef) w) : sOp P opl.toArray i K a w := by
  have ho : opl.toArray[i]? = some o := by simpa using ho'
  unfold sOp
  simp only [ho, hg, Bool.false_eq_true, if_false]
  exact hk
theorem s_eff {K : Act → World → Prop} (v : Value) (ho' : opl[i]? = some o) (hg : Region.wanted o (yielded opl.toArray a.tmps) = true)
    (hq : (execOp a.eval o).run P w = .ok (.value v) w') (hk : K (a.put o.dst v) w') : sOp P opl.toArray i K a w := by
  have ho : opl.toArray[i]? = some o := by simpa using ho'
  unfold sOp
  simp only [ho, hg, if_true]
  unfold StepTo
  rw [hq]
  exact hk
theorem s_eff0 {K : Act → World → Prop} (ho' : opl[i]? = some o) (hg : Region.wanted o (yielded opl.toArray a.tmps) = true)
    (hq : (execOp a.eval o).run P w = .ok .skip w') (hk : K (a.put o.dst undef) w') : sOp P opl.toArray i K a w := by
  have ho : opl.toArray[i]? = some o := by simpa using ho'
  unfold sOp
  simp only [ho, hg, if_true]
  unfold StepTo
  rw [hq]
  exact hk
theorem s_call {K : Act → World → Prop} {f : FuncId} {args : Array Value} (ho' : opl[i]? = some o) (hg : Region.wanted o (yielded opl.toArray a.tmps) = true)
    (hq : (execOp a.eval o).run P w = .ok (.enter f args) w') (hc : Calls P f args w' fun e w'' => ∃ v, e = .returned v ∧ K (a.put o.dst v) w'') : sOp P opl.toArray i K a w := by
  have ho : opl.toArray[i]? = some o := by simpa using ho'
  unfold sOp
  simp only [ho, hg, if_true]
  unfold StepTo
  rw [hq]
  exact hc
theorem fin_call {f : FuncId} {args : Array Value} (ho' : opl[i]? = some o) (hg : Region.wanted o (yielded opl.toArray a.tmps) = true)
    (hq : (execOp a.eval o).run P w = .ok (.enter f args) w') (hc : Calls P f args w' fun e w'' => (∃ v, e = .returned v ∧ Q .normal (a.put o.dst v) w'') ∨ ∃ ch, e = .panicked ch ∧ Q (.panic ch) a w'') : rtW P opl.toArray C Q (.fin i) a w := by
  have ho : opl.toArray[i]? = some o := by simpa using ho'
  show wOp P opl.toArray Q i a w
  unfold wOp
  simp only [ho, hg, if_true]
  unfold Oper.wp
  rw [hq]
  refine Calls.mono hc ?_
  rintro e w'' (⟨v, rfl, h⟩ | ⟨ch, rfl, h⟩)
  · exact h
  · exact h
theorem fin_eff (v : Value) (ho' : opl[i]? = some o) (hg : Region.wanted o (yielded opl.toArray a.tmps) = true)
    (hq : (execOp a.eval o).run P w = .ok (.value v) w') (hk : Q .normal (a.put o.dst v) w') : rtW P opl.toArray C Q (.fin i) a w := by
  have ho : opl.toArray[i]? = some o := by simpa using ho'
  show wOp P opl.toArray Q i a w
  unfold wOp
  simp only [ho, hg, if_true]
  unfold Oper.wp
  rw [hq]
  exact hk
theorem fin_eff0 (ho' : opl[i]? = some o) (hg : Region.wanted o (yielded opl.toArray a.tmps) = true)
    (hq : (execOp a.eval o).run P w = .ok .skip w') (hk : Q .normal (a.put o.dst undef) w') : rtW P opl.toArray C Q (.fin i) a w := by
  have ho : opl.toArray[i]? = some o := by simpa using ho'
  show wOp P opl.toArray Q i a w
  unfold wOp
  simp only [ho, hg, if_true]
  unfold Oper.wp
  rw [hq]
  exact hk
end

section
variable {P : Program} {ops : Array Oper} {C : World → Prop} {Q : Exit → Act → World → Prop}
theorem wOp_mono {Q' : Exit → Act → World → Prop} (h : ∀ e a w, Q e a w → Q' e a w) {i : Nat} {a : Act} {w : World} (k : wOp P ops Q i a w) : wOp P ops Q' i a w := by
  unfold wOp at *
  split
  · exact h _ _ _ (by simpa [*] using k)
  · rename_i o ho
    simp only [ho] at k
    split
    · rename_i hw
      simp only [hw, if_true] at k
      unfold Oper.wp at *
      generalize (execOp a.eval o).run P w = r at *
      cases r with
      | ok x w' =>
        cases x <;> simp only [Oper.upon] at k ⊢
        case value => exact h _ _ _ k
        case skip => exact h _ _ _ k
        case defer => exact h _ _ _ k
        case enter =>
          refine k.mono ?_
          intro e w'' hh
          cases e with
          | returned v => exact h _ _ _ hh
          | panicked ch => exact h _ _ _ hh
          | outgrown =>
            obtain ⟨a', w', hh⟩ := hh
            exact ⟨a', w', h _ _ _ hh⟩
        case row =>
          exact Rows.mono k fun v w'' hh => h _ _ _ hh
      | halt x w' => cases x <;> simp only [Oper.upon] at k ⊢; exact h _ _ _ k
    · rename_i hw
      simp only [hw] at k
      exact h _ _ _ k
theorem rtW_mono {Q' : Exit → Act → World → Prop} (h : ∀ e a w, Q e a w → Q' e a w) : ∀ (r : Rt) (a : Act) (w : World), rtW P ops C Q r a w → rtW P ops C Q' r a w
  | .nil, _, _, k => h _ _ _ k
  | .q _ r, _, _, ⟨o, ho, v, hq, k⟩ => ⟨o, ho, v, hq, rtW_mono h r _ _ k⟩
  | .e _ r, _, _, k => sOp_mono (fun _ _ k => ⟨k.1, rtW_mono h r _ _ k.2⟩) k
  | .b _ r _ s, _, _, k => ⟨sOp_mono (fun _ _ k => ⟨k.1, rtW_mono h r _ _ k.2⟩) k.1, sOp_mono (fun _ _ k => ⟨k.1, rtW_mono h s _ _ k.2⟩) k.2⟩
  | .fin _, _, _, k => wOp_mono h k
/-- ways that part meet again -/
theorem rt_via {G : Nat → Nat → Act} (F : Nat → Nat → World → Prop) {r : Rt} {a : Act} {w : World} (h : rtW P ops C (fun e a w => e = .normal ∧ ∃ m g, a = G m g ∧ F m g w) r a w)
    (k : ∀ m g w, F m g w → Q .normal (G m g) w) : rtW P ops C Q r a w :=
  rtW_mono (by rintro e a w ⟨rfl, m, g, rfl, hf⟩; exact k m g w hf) r a w h
end
end Go.Proofs.Ytkmgbejhbkbaoaa
