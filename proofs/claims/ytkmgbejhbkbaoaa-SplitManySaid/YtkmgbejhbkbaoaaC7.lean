/- The program's check: model of uses; what a shape that is right tells. -/
import Derived.Test.YtkmgbejhbkbaoaaC6
namespace Go.Proofs.Ytkmgbejhbkbaoaa
set_option linter.unusedSimpArgs false
set_option linter.unusedVariables false
open Go.RowKit

theorem runC_none {l : List Ck} : runC l = none ↔ ∀ c ∈ l, c.1 = true := by
  induction l with
  | nil => simp [runC]
  | cons x l ih =>
    obtain ⟨x, t⟩ := x
    cases x with
    | true => simp [runC, ih]
    | false => simp [runC]
theorem thgsC_pre {params : Int} : ∀ (ts : List Thg) (mk : Mk), runC (thgsC params mk ts) = none → ∀ t ∈ ts, ∀ c ∈ t.pre, c.1 = true
  | [], _, _, t, h, _, _ => by cases h
  | t0 :: ts, mk, hr, t, ht, c, hc => by
    rw [thgsC_cons] at hr
    have h1 := runC_none.1 hr
    rcases List.mem_cons.1 ht with rfl | ht
    · exact h1 c (by simp [hc])
    · exact thgsC_pre ts (mkAll mk t0.mks t0.b t0.p) (runC_none.2 fun c hc => h1 c (List.mem_append_right _ (List.mem_append_right _ hc))) t ht c hc
theorem mem_blocksT {bs : List JBlock} {b : Nat} (hb : b < bs.length) {t : Thg} (ht : t ∈ blockT bs.length b bs[b]) : t ∈ (blocksT bs).flatten := by
  refine List.mem_flatten.2 ⟨blockT bs.length b bs[b], ?_, ht⟩
  refine List.mem_map.2 ⟨b, List.mem_range.2 hb, ?_⟩
  simp [List.getD, hb]
/-- what is asked of one block's end, and of its instructions -/
theorem shape_term {params : Int} {bs : List JBlock} (h : runC (shapeC params bs) = none) {b : Nat} (hb : b < bs.length) : termOk bs[b].term = true ∧ ∀ t ∈ bs[b].term.to, 1 ≤ t ∧ t ≤ (bs.length : Int) - 1 := by
  have h1 := thgsC_pre _ _ h (termT bs.length b bs[b]) (mem_blocksT hb (by simp [blockT]))
  refine ⟨h1 _ (by simp [termT]; exact .inl rfl), fun t ht => ?_⟩
  have := h1 (decide (1 ≤ t ∧ t ≤ (bs.length : Int) - 1), (14, (b : Int), (bs[b].ins.length : Int))) (by
    simp only [termT, List.mem_cons]
    exact .inr (List.mem_map.2 ⟨t, ht, rfl⟩))
  simpa using this
theorem termOk_to {t : JTerm} (h : termOk t = true) : t.to.length ≤ 65 ∧ t.args.length ≤ 1 := by
  rw [termOk_eq] at h
  simp only [Bool.and_eq_true, decide_eq_true_eq] at h
  have h1 := shp_bound t.kind
  have h2 : (shpOf t.kind).1.2.1 ≤ 1 := by
    unfold shpOf
    have key : ∀ s, shapeF t.kind = some s → s.2.1 ≤ 1 := by
      intro s h
      unfold shapeF at h
      repeat' split at h
      all_goals (first | (injection h with h; subst h; decide) | cases h)
    cases h : shapeF t.kind with
    | none => simp
    | some s => exact key s h
  omega
theorem ofF_good (bs : List JBlock) : Good (ofF bs) := by
  intro row hr
  obtain ⟨b, _, rfl⟩ := List.mem_map.1 hr
  refine ⟨keptF_sorted _ _, fun x hx => ?_⟩
  have := (mem_keptF.1 hx).1
  simpa [ofF] using this
@[simp] theorem ofF_len (bs : List JBlock) : (ofF bs).length = bs.length := by simp [ofF]

/-! ### uses -/
def reachC (g : List (List Nat)) : List Ck := (List.range g.length).map fun b => ((orderF g).contains b, (15, (b : Int), 0))
def phiFits (b : Nat) (p : JPhi) (pr : List Nat) : Bool := decide (0 < b) && decide (p.ins.length = pr.length) && decide (p.ins.map (·.src) = pr.map Int.ofNat)
section
variable (params : Int) (mk : Mk) (dom : Int → Int → Bool) (bs : List JBlock)
def inU (b i : Nat) (n : JIn) : Ck := (useB params mk dom n.val n.src ((bs.getD n.src.toNat default).ins.length), (13, (b : Int), -1 - (i : Int)))
def phiU (b : Nat) (x : JBlock) (i : Nat) : List Ck := (phiFits b (x.phis.getD i default) (prd (ofF bs) b), (16, (b : Int), -1 - (i : Int))) :: (x.phis.getD i default).ins.map (inU params mk dom bs b i)
def argU (b i : Nat) (v : Int) : Ck := (useB params mk dom v b i, (13, (b : Int), (i : Int)))
def insU (b : Nat) (x : JBlock) (i : Nat) : List Ck := (x.ins.getD i default).args.map (argU params mk dom b i)
def blockU (b : Nat) (x : JBlock) : List Ck :=
  ((List.range x.phis.length).map (phiU params mk dom bs b x)).flatten ++ (((List.range x.ins.length).map (insU params mk dom b x)).flatten ++ x.term.args.map (argU params mk dom b x.ins.length))
def blocksU : List (List Ck) := (List.range bs.length).map fun b => blockU params mk dom bs b (bs.getD b default)
def usesC : List Ck := reachC (ofF bs) ++ (blocksU params mk dom bs).flatten
end
theorem reach_all {g : List (List Nat)} (hg : Good g) (h0 : 0 < g.length) : runC (reachC g) = none ↔ AllR g := by
  have ho := orderF_ord h0 (fun row hr b hb => (hg row hr).2 b hb)
  rw [runC_none]
  constructor
  · intro h
    refine ⟨h0, fun x hx => (ho.mem x).1 ?_⟩
    have := h ((orderF g).contains x, (15, (x : Int), 0)) (List.mem_map.2 ⟨x, List.mem_range.2 hx, rfl⟩)
    simpa using this
  · rintro ⟨_, h⟩ c hc
    obtain ⟨x, hx, rfl⟩ := List.mem_map.1 hc
    simpa using (ho.mem x).2 (h x (List.mem_range.1 hx))
theorem order_le {g : List (List Nat)} (hg : Good g) (h0 : 0 < g.length) : (orderF g).length ≤ g.length := by
  have ho := orderF_ord h0 (fun row hr b hb => (hg row hr).2 b hb)
  have : (orderF g).Perm ((List.range g.length).filter fun x => (orderF g).contains x) := (List.perm_ext_iff_of_nodup ho.nodup (List.nodup_range.filter _)).2 fun x => by
    rw [List.mem_filter, List.mem_range]
    constructor
    · intro h; exact ⟨Rch.lt hg h0 ((ho.mem x).1 h), by simpa using h⟩
    · intro h; simpa using h.2
  rw [this.length_eq]
  exact Nat.le_trans (List.length_filter_le _ _) (by simp)
theorem contains_ofNat (o : List Nat) (b : Nat) : (o.map Int.ofNat).contains (b : Int) = o.contains b := by
  rw [Bool.eq_iff_iff]
  simp only [List.contains_iff_mem, List.mem_map]
  constructor
  · rintro ⟨x, hx, he⟩
    have : x = b := by have : (x : Int) = (b : Int) := he
                       omega
    rwa [← this]
  · intro h; exact ⟨b, h, rfl⟩
/-- the first k of a phi's fit -/
def fitT (b : Nat) (p : JPhi) (pr : List Nat) (k : Nat) : Bool := decide (0 < b) && decide (p.ins.length = pr.length) && decide ((p.ins.map (·.src)).take k = (pr.map Int.ofNat).take k)
theorem fitT_zero (b : Nat) (p : JPhi) (pr : List Nat) : fitT b p pr 0 = (decide (0 < b) && decide (p.ins.length = pr.length)) := by simp [fitT]
theorem fitT_all (b : Nat) (p : JPhi) (pr : List Nat) : fitT b p pr p.ins.length = phiFits b p pr := by
  unfold fitT phiFits
  by_cases h : p.ins.length = pr.length
  · rw [List.take_of_length_le (by simp), List.take_of_length_le (by simp [h])]
  · simp [h]
theorem fitT_len {b : Nat} {p : JPhi} {pr : List Nat} {k : Nat} (h : fitT b p pr k = true) : p.ins.length = pr.length := by
  simp only [fitT, Bool.and_eq_true, decide_eq_true_eq] at h; exact h.1.2
theorem fitT_succ {b : Nat} {p : JPhi} {pr : List Nat} {k : Nat} (hk : k < p.ins.length) (hk2 : k < pr.length) : fitT b p pr (k + 1) = (fitT b p pr k && decide (p.ins[k].src = (pr[k] : Int))) := by
  unfold fitT
  rw [List.take_succ_eq_append_getElem (by simpa using hk), List.take_succ_eq_append_getElem (l := pr.map Int.ofNat) (by simpa using hk2)]
  rw [Bool.and_assoc _ (decide ((p.ins.map (·.src)).take k = _)) _]
  congr 1
  rw [← Bool.decide_and]
  congr 1
  simp only [List.getElem_map, eq_iff_iff]
  constructor
  · intro h
    have := List.append_inj' h rfl
    exact ⟨this.1, by have := this.2; simpa using this⟩
  · rintro ⟨h1, h2⟩
    rw [h1, h2]; rfl
theorem fitT_false {b : Nat} {p : JPhi} {pr : List Nat} {k : Nat} (h : fitT b p pr k = false) : fitT b p pr (k + 1) = false := by
  cases h2 : fitT b p pr (k + 1) with
  | false => rfl
  | true =>
    exfalso
    simp only [fitT, Bool.and_eq_true, decide_eq_true_eq] at h2
    have : fitT b p pr k = true := by
      simp only [fitT, Bool.and_eq_true, decide_eq_true_eq]
      refine ⟨h2.1, ?_⟩
      have h3 := congrArg (List.take k) h2.2
      rw [List.take_take, List.take_take, Nat.min_eq_left (by omega)] at h3
      exact h3
    rw [h] at this; cases this
theorem rt_nil {P : Program} {ops : Array Oper} {C : World → Prop} {Q : Exit → Act → World → Prop} {a : Act} {w : World} (h : Q .normal a w) : rtW P ops C Q .nil a w := h
/-- some slots written -/
def puts (a : Act) (l : List (Nat × Value)) : Act := l.foldl (fun a p => a.put (some p.1) p.2) a
theorem puts_nil (a : Act) : puts a [] = a := rfl
theorem puts_cons (a : Act) (p : Nat × Value) (l : List (Nat × Value)) : puts a (p :: l) = puts (a.put (some p.1) p.2) l := rfl
/-- ways that differ in some slots meet again -/
theorem rt_put {P : Program} {ops : Array Oper} {C : World → Prop} {Q : Exit → Act → World → Prop} {r : Rt} {a : Act} {w : World} (ds : List Nat) (fx : List (Nat × Value)) (F : World → Prop)
    (h : rtW P ops C (fun e a' w' => e = .normal ∧ ∃ vs : List Value, vs.length = ds.length ∧ a' = puts a (ds.zip vs ++ fx) ∧ F w') r a w)
    (k : ∀ vs w', vs.length = ds.length → F w' → Q .normal (puts a (ds.zip vs ++ fx)) w') : rtW P ops C Q r a w :=
  rtW_mono (by rintro e a w ⟨rfl, vs, hl, rfl, hf⟩; exact k vs w hl hf) r a w h
end Go.Proofs.Ytkmgbejhbkbaoaa
