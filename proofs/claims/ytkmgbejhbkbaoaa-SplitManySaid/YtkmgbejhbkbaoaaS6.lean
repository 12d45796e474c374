/- The program's split: what a function that may be tells. -/
import Derived.Test.YtkmgbejhbkbaoaaS5
import Derived.Test.YtkmgbejhbkbaoaaCA
namespace Go.Proofs.Ytkmgbejhbkbaoaa
set_option linter.unusedSimpArgs false
set_option linter.unusedVariables false
open Go.RowKit

theorem runC_mem {l : List Ck} {t : Tro} (h : runC l = some t) : ∃ c ∈ l, c.2 = t := by
  induction l with
  | nil => cases h
  | cons x l ih =>
    obtain ⟨x, u⟩ := x
    cases x with
    | true => obtain ⟨c, hc, he⟩ := ih h; exact ⟨c, List.mem_cons_of_mem _ hc, he⟩
    | false => exact ⟨(false, u), by simp, by simpa [runC] using h⟩
theorem onceC_code {b p : Int} : ∀ (l : List Int) (mk : Mk), ∀ c ∈ onceC mk l b p, c.2.1 = 12
  | [], _, c, hc => by cases hc
  | n :: l, mk, c, hc => by
    simp only [onceC, List.mem_cons] at hc
    rcases hc with rfl | hc
    · rfl
    · exact onceC_code l _ c hc
theorem thgsC_code {params : Int} : ∀ (ts : List Thg) (mk : Mk), (∀ t ∈ ts, ∀ c ∈ t.pre, c.2.1 ≠ 0) → ∀ c ∈ thgsC params mk ts, c.2.1 ≠ 0
  | [], _, _, c, hc => by cases hc
  | t :: ts, mk, h, c, hc => by
    rw [thgsC_cons, List.mem_append, List.mem_append] at hc
    rcases hc with hc | hc | hc
    · exact h t (by simp) c hc
    · rw [allC, List.mem_append] at hc
      rcases hc with hc | hc
      · obtain ⟨n, hn, rfl⟩ := List.mem_map.1 hc
        simp
      · rw [onceC_code _ _ c hc]; simp
    · exact thgsC_code ts _ (fun t ht => h t (by simp [ht])) c hc
theorem funcC_code {f : JFunc} {idom : List Int} {t : Tro} (h : runC (funcC f idom) = some t) : t.1 ≠ 0 := by
  obtain ⟨c, hc, rfl⟩ := runC_mem h
  simp only [funcC, frontC, List.mem_append] at hc
  rcases hc with (hc | hc) | hc
  · simp only [headC, List.mem_cons, List.not_mem_nil, or_false] at hc
    rcases hc with rfl | rfl | rfl <;> simp
  · refine thgsC_code _ _ ?_ c hc
    intro t ht c hc
    obtain ⟨b, hb, ht⟩ := mem_blocksT_iff.1 ht
    rcases mem_blockT_iff.1 ht with ⟨i, hi, rfl⟩ | ⟨i, hi, rfl⟩ | rfl
    · simp [phiT] at hc
    · simp only [insT, List.mem_cons, List.not_mem_nil, or_false] at hc
      rcases hc with rfl | rfl <;> simp
    · simp only [termT, List.mem_cons] at hc
      rcases hc with rfl | hc
      · simp
      · obtain ⟨x, _, rfl⟩ := List.mem_map.1 hc
        simp
  · simp only [usesC, List.mem_append] at hc
    rcases hc with hc | hc
    · obtain ⟨x, _, rfl⟩ := List.mem_map.1 hc
      simp
    · obtain ⟨l, hl, hc⟩ := List.mem_flatten.1 hc
      obtain ⟨b, _, rfl⟩ := List.mem_map.1 hl
      simp only [blockU, List.mem_append] at hc
      rcases hc with hc | hc | hc
      · obtain ⟨l, hl, hc⟩ := List.mem_flatten.1 hc
        obtain ⟨i, _, rfl⟩ := List.mem_map.1 hl
        simp only [phiU, List.mem_cons] at hc
        rcases hc with rfl | hc
        · simp
        · obtain ⟨x, _, rfl⟩ := List.mem_map.1 hc
          simp [inU]
      · obtain ⟨l, hl, hc⟩ := List.mem_flatten.1 hc
        obtain ⟨i, _, rfl⟩ := List.mem_map.1 hl
        obtain ⟨x, _, rfl⟩ := List.mem_map.1 hc
        simp [argU]
      · obtain ⟨x, _, rfl⟩ := List.mem_map.1 hc
        simp [argU]

/-- what split needs of a function that may be -/
structure OkC (f : JFunc) : Prop where
  ne : 0 < f.blocks.length
  many : f.blocks.length ≤ 512
  things : f.blocks.length + thingsN f.blocks ≤ 4096
  to : ∀ x ∈ f.blocks, ∀ t ∈ x.term.to, 1 ≤ t ∧ t ≤ (f.blocks.length : Int) - 1
  tolen : ∀ x ∈ f.blocks, x.term.to.length ≤ 65 ∧ x.term.args.length ≤ 1 ∧ ∀ s ∈ x.ins, s.args.length ≤ 4
  phis : ∀ b (hb : b < f.blocks.length), ∀ p ∈ f.blocks[b].phis, p.ins.map (·.src) = (prd (ofF f.blocks) b).map Int.ofNat
  reach : AllR (ofF f.blocks)
theorem okC_of {f : JFunc} {idom : List Int} (h : runC (funcC f idom) = none) : OkC f := by
  have hall := runC_none.1 h
  have hsh : runC (shapeC f.params f.blocks) = none := runC_none.2 fun c hc => hall c (by simp [funcC, frontC, hc])
  have hus : runC (usesC f.params (madeAll f.blocks) (domF idom) f.blocks) = none := runC_none.2 fun c hc => hall c (by simp [funcC, hc])
  have h2 : 0 < f.blocks.length := by
    have := hall (decide (0 < f.blocks.length), (14, 0, 0)) (by simp [funcC, frontC, headC])
    simpa using this
  have h3 := hall (decide ((f.blocks.length : Int) ≤ 512) && decide (((f.blocks.length + thingsN f.blocks : Nat) : Int) ≤ 4096), (2, 0, 0)) (by simp [funcC, frontC, headC])
  simp only [Bool.and_eq_true, decide_eq_true_eq] at h3
  have hr : AllR (ofF f.blocks) := (reach_all (ofF_good _) (by simpa using h2)).1 (runC_none.2 fun c hc => runC_none.1 hus c (by simp [usesC, hc]))
  refine ⟨h2, by omega, by omega, fun x hx t ht => ?_, fun x hx => ?_, fun b hb p hp => ?_, hr⟩
  · obtain ⟨i, hi, rfl⟩ := List.getElem_of_mem hx
    exact (shape_term hsh hi).2 t ht
  · obtain ⟨i, hi, rfl⟩ := List.getElem_of_mem hx
    refine ⟨(termOk_to (shape_term hsh hi).1).1, (termOk_to (shape_term hsh hi).1).2, fun s hs => ?_⟩
    obtain ⟨j, hj, rfl⟩ := List.getElem_of_mem hs
    have e : f.blocks[i].ins.getD j default = f.blocks[i].ins[j] := by simp [List.getD, hj]
    have hm : (decide ((opersF f.blocks[i].ins[j].op).1 ≤ (f.blocks[i].ins[j].args.length : Int) ∧ (f.blocks[i].ins[j].args.length : Int) ≤ (opersF f.blocks[i].ins[j].op).2), ((10 : Int), (i : Int), (j : Int))) ∈ (insT i f.blocks[i] j).pre := by
      simp only [insT, e]; exact .tail _ (.head _)
    have := thgsC_pre _ _ hsh (insT i f.blocks[i] j) (mem_blocksT hi (mem_blockT_iff.2 (.inr (.inl ⟨j, hj, rfl⟩)))) _ hm
    simp only [decide_eq_true_eq] at this
    have h4 : (opersF f.blocks[i].ins[j].op).2 ≤ 4 := by
      unfold opersF; repeat' split
      all_goals simp
    omega
  · obtain ⟨j, hj, rfl⟩ := List.getElem_of_mem hp
    have hm : (phiFits b f.blocks[b].phis[j] (prd (ofF f.blocks) b), ((16 : Int), (b : Int), -1 - (j : Int))) ∈ usesC f.params (madeAll f.blocks) (domF idom) f.blocks := by
      refine List.mem_append_right _ (List.mem_flatten.2 ⟨_, List.mem_map.2 ⟨b, List.mem_range.2 hb, rfl⟩, ?_⟩)
      have e : f.blocks.getD b default = f.blocks[b] := by simp [List.getD, hb]
      rw [e, blockU]
      refine List.mem_append_left _ (List.mem_flatten.2 ⟨_, List.mem_map.2 ⟨j, List.mem_range.2 hj, rfl⟩, ?_⟩)
      have e2 : f.blocks[b].phis.getD j default = f.blocks[b].phis[j] := by simp [List.getD, hj]
      rw [phiU, e2]; exact .head _
    have := runC_none.1 hus _ hm
    simp only [phiFits, Bool.and_eq_true, decide_eq_true_eq] at this
    exact this.2

/-! ### a block's predecessors rise -/
theorem edgesF_lex {g : List (List Nat)} (hg : Good g) : (edgesF g).Pairwise fun x y => x.1 < y.1 ∨ x.1 = y.1 ∧ x.2 < y.2 := by
  unfold edgesF edgesTo
  rw [List.take_length, List.pairwise_flatMap]
  constructor
  · intro p hp
    obtain ⟨h1, h2, h3⟩ := List.mem_zipIdx hp
    rw [List.pairwise_map]
    have := (hg p.1 (by rw [h3]; exact List.getElem_mem _)).1
    exact this.imp fun {a b} hab => .inr ⟨rfl, hab⟩
  · rw [List.pairwise_iff_getElem]
    intro i j hi hj hij x hx y hy
    rw [List.length_zipIdx] at hi hj
    simp only [List.getElem_zipIdx, List.mem_map] at hx hy
    obtain ⟨x', _, rfl⟩ := hx
    obtain ⟨y', _, rfl⟩ := hy
    exact .inl (by simp; omega)
theorem prd_sorted {g : List (List Nat)} (hg : Good g) (x : Nat) : (prd g x).Pairwise (· < ·) := by
  unfold prd predsF predsOf
  by_cases hx : x < g.length
  · rw [List.getD_eq_getElem?_getD, List.getElem?_map, List.getElem?_range hx]
    simp only [Option.map_some, Option.getD_some]
    rw [List.pairwise_map]
    refine List.Pairwise.imp_of_mem ?_ ((edgesF_lex hg).filter _)
    intro a b ha hb h
    have h1 := (List.mem_filter.1 ha).2
    have h2 := (List.mem_filter.1 hb).2
    simp only [beq_iff_eq] at h1 h2
    omega
  · rw [List.getD_eq_getElem?_getD, List.getElem?_eq_none (by simpa using hx)]
    simp
theorem fixS_nat {n : Nat} {c : List (Nat × Nat)} {a s : Nat} : fixS n c a (s : Int) = match lookC n c s a with | some k => (k : Int) | none => (s : Int) := rfl
theorem lookC_mem {n : Nat} {c : List (Nat × Nat)} {a t k : Nat} (h : lookC n c a t = some k) : ∃ i, ∃ hi : i < c.length, c[i] = (a, t) ∧ k = n + i := by
  unfold lookC at h
  obtain ⟨i, hi, rfl⟩ := Option.map_eq_some_iff.1 h
  obtain ⟨h1, h2, _⟩ := List.findIdx?_eq_some_iff_getElem.1 hi
  exact ⟨i, h1, by simpa using h2, rfl⟩
theorem fixS_lt {n : Nat} {c : List (Nat × Nat)} {a s : Nat} (hs : s < n) : 0 ≤ fixS n c a (s : Int) ∧ fixS n c a (s : Int) < (n + c.length : Nat) := by
  rw [fixS_nat]
  cases h : lookC n c s a with
  | none => simp only []; omega
  | some k =>
    obtain ⟨i, hi, _, rfl⟩ := lookC_mem h
    simp only []; omega
theorem fixS_inj {n : Nat} {c : List (Nat × Nat)} {a s t : Nat} (hs : s < n) (ht : t < n) (h : fixS n c a (s : Int) = fixS n c a (t : Int)) : s = t := by
  rw [fixS_nat, fixS_nat] at h
  cases h1 : lookC n c s a with
  | none =>
    cases h2 : lookC n c t a with
    | none => rw [h1, h2] at h; simp only [] at h; omega
    | some k =>
      obtain ⟨i, hi, _, rfl⟩ := lookC_mem h2
      rw [h1, h2] at h; simp only [] at h; omega
  | some k =>
    obtain ⟨i, hi, e1, rfl⟩ := lookC_mem h1
    cases h2 : lookC n c t a with
    | none => rw [h1, h2] at h; simp only [] at h; omega
    | some k =>
      obtain ⟨j, hj, e2, rfl⟩ := lookC_mem h2
      rw [h1, h2] at h
      simp only [] at h
      have : i = j := by omega
      subst this
      rw [e1] at e2
      exact (Prod.mk.inj e2).1
/-- a phi's numbers of blocks, some of them others now: each once, and small -/
theorem fix_srcs {bs : List JBlock} {b : Nat} (hb : b < bs.length) {p : JPhi} (hp : p.ins.map (·.src) = (prd (ofF bs) b).map Int.ofNat) (n : Nat) (hn : n = bs.length) (c : List (Nat × Nat)) (a : Nat) :
    ((p.ins.map (fixIn n c a)).map (·.src)).Nodup ∧ ∀ x ∈ p.ins.map (fixIn n c a), 0 ≤ x.src ∧ x.src < (n + c.length : Nat) := by
  subst hn
  have hg := ofF_good bs
  have hlt : ∀ s ∈ prd (ofF bs) b, s < bs.length := fun s hs => by
    have := (Ed.lt hg ((mem_prd (by simpa using hb)).1 hs)).1
    simpa using this
  have e : (p.ins.map (fixIn bs.length c a)).map (·.src) = (prd (ofF bs) b).map fun s : Nat => fixS bs.length c a (s : Int) := by
    have := congrArg (List.map (fixS bs.length c a)) hp
    rw [List.map_map, List.map_map] at this
    rw [List.map_map]
    exact this
  constructor
  · rw [e]
    unfold List.Nodup
    rw [List.pairwise_map]
    refine List.Pairwise.imp_of_mem ?_ (prd_sorted hg b)
    intro x y hx hy hxy he
    have := fixS_inj (hlt x hx) (hlt y hy) he
    omega
  · intro x hx
    have : x.src ∈ (p.ins.map (fixIn bs.length c a)).map (·.src) := List.mem_map.2 ⟨x, hx, rfl⟩
    rw [e] at this
    obtain ⟨s, hs, he⟩ := List.mem_map.1 this
    rw [← he]
    exact fixS_lt (hlt s hs)
theorem rise_len {l : List Nat} {n : Nat} (h : l.Pairwise (· < ·)) (hn : ∀ x ∈ l, x < n) : l.length ≤ n := by
  have hnd : l.Nodup := h.imp fun h => by omega
  have : l.Perm ((List.range n).filter fun x => l.contains x) := (List.perm_ext_iff_of_nodup hnd (List.nodup_range.filter _)).2 fun x => by
    rw [List.mem_filter]
    constructor
    · intro h; exact ⟨by simpa using hn x h, by simpa using h⟩
    · intro h; simpa using h.2
  rw [this.length_eq]
  exact Nat.le_trans (List.length_filter_le _ _) (by simp)
theorem sum_le {α : Type} (l : List α) (F : α → Nat) (b : Nat) (h : ∀ x ∈ l, F x ≤ b) : (l.map F).sum ≤ l.length * b := by
  induction l with
  | nil => simp
  | cons x l ih =>
    have h1 := h x (by simp)
    have h2 := ih fun y hy => h y (by simp [hy])
    simp only [List.map_cons, List.sum_cons, List.length_cons, Nat.add_mul, Nat.one_mul]
    omega
theorem crit_le {g : List (List Nat)} (hg : Good g) : (critF g).length ≤ g.length * g.length := by
  refine Nat.le_trans (List.length_filter_le _ _) ?_
  unfold edgesF edgesTo
  rw [List.take_length, List.length_flatMap]
  have := sum_le g.zipIdx (fun p => (p.1.map fun b => (p.2, b)).length) g.length fun p hp => by
    obtain ⟨h1, h2, h3⟩ := List.mem_zipIdx hp
    have hm : p.1 ∈ g := by rw [h3]; exact List.getElem_mem _
    rw [List.length_map]
    exact rise_len (hg p.1 hm).1 (hg p.1 hm).2
  simpa using this
theorem okC_small {f : JFunc} (h : OkC f) : ∀ x ∈ f.blocks, smallB x := by
  intro x hx
  have h1 := thingsN_mem hx
  have h2 := h.things
  have h3 := h.tolen x hx
  refine ⟨by omega, by omega, fun p hp => ?_, fun s hs => by have := h3.2.2 s hs; omega, by omega, by omega⟩
  obtain ⟨b, hb, rfl⟩ := List.getElem_of_mem hx
  have h4 := congrArg List.length (h.phis b hb p hp)
  simp only [List.length_map] at h4
  have hg := ofF_good f.blocks
  have h5 : (prd (ofF f.blocks) b).length ≤ f.blocks.length := by
    have hnd : (prd (ofF f.blocks) b).Nodup := (prd_sorted hg b).imp fun h => by omega
    have hsub : ∀ s ∈ prd (ofF f.blocks) b, s ∈ List.range f.blocks.length := fun s hs => by
      have := (Ed.lt hg ((mem_prd (by simpa using hb)).1 hs)).1
      simpa using this
    have : (prd (ofF f.blocks) b).Perm ((List.range f.blocks.length).filter fun x => (prd (ofF f.blocks) b).contains x) := (List.perm_ext_iff_of_nodup hnd (List.nodup_range.filter _)).2 fun x => by
      rw [List.mem_filter]
      constructor
      · intro h; exact ⟨hsub x h, by simpa using h⟩
      · intro h; simpa using h.2
    rw [this.length_eq]
    exact Nat.le_trans (List.length_filter_le _ _) (by simp)
  have h6 := h.many
  omega
end Go.Proofs.Ytkmgbejhbkbaoaa
