/- Plain: a function that may be, said by its parts; the checks find nothing in it. -/
import Derived.Test.YtkmgbejhbkbaoaaC7
namespace Go.Proofs.Ytkmgbejhbkbaoaa
set_option linter.unusedSimpArgs false
set_option linter.unusedVariables false

/-! ### what is made, and where -/
def madeAll (bs : List JBlock) : Mk := mkAfter [] (blocksT bs).flatten
theorem mkAfter_eq (ts : List Thg) : ∀ mk : Mk, mkAfter mk ts = mk ++ ts.flatMap fun t => t.mks.map fun n => (n, (t.b, t.p)) := by
  induction ts with
  | nil => intro mk; simp [mkAfter]
  | cons t ts ih =>
    intro mk
    have : mkAfter mk (t :: ts) = mkAfter (mkAll mk t.mks t.b t.p) ts := rfl
    rw [this, ih, mkAll]
    simp
def valsB (x : JBlock) : List Int := x.phis.map (·.dst) ++ x.ins.flatMap makesF
def valsF (bs : List JBlock) : List Int := bs.flatMap valsB
theorem map_range_getD {α β : Type} [Inhabited α] (l : List α) (F : α → β) : (List.range l.length).map (fun i => F (l.getD i default)) = l.map F := by
  refine List.ext_getElem (by simp) fun i h1 h2 => ?_
  have : i < l.length := by simpa using h2
  simp [List.getD, this]
theorem flatMap_range_getD {α β : Type} [Inhabited α] (l : List α) (F : α → List β) : (List.range l.length).flatMap (fun i => F (l.getD i default)) = l.flatMap F := by
  rw [List.flatMap_def, List.flatMap_def, map_range_getD]
theorem blockT_mks (n b : Nat) (x : JBlock) : (blockT n b x).flatMap (·.mks) = valsB x := by
  unfold blockT phisT inssT valsB
  rw [List.flatMap_append, List.flatMap_append, List.flatMap_map, List.flatMap_map]
  simp only [List.flatMap_cons, List.flatMap_nil, termT, List.append_nil, phiT, insT]
  congr 1
  · have := flatMap_range_getD x.phis (fun p => [p.dst])
    rw [this]
    generalize x.phis = l
    induction l with
    | nil => rfl
    | cons a l ih => simp [List.flatMap_cons, ih]
  · exact flatMap_range_getD x.ins makesF
theorem madeAll_fst (bs : List JBlock) : (madeAll bs).map (·.1) = valsF bs := by
  rw [madeAll, mkAfter_eq, List.nil_append, List.map_flatMap]
  simp only [List.map_map, Function.comp_def, List.map_id']
  rw [blocksT, ← List.flatMap_def, List.flatMap_assoc]
  simp only [blockT_mks]
  exact flatMap_range_getD bs valsB
theorem mem_blocksT_iff {bs : List JBlock} {t : Thg} : t ∈ (blocksT bs).flatten ↔ ∃ b, ∃ hb : b < bs.length, t ∈ blockT bs.length b bs[b] := by
  simp only [blocksT, List.mem_flatten, List.mem_map, List.mem_range]
  constructor
  · rintro ⟨l, ⟨b, hb, rfl⟩, ht⟩
    refine ⟨b, hb, ?_⟩
    simpa [List.getD, hb] using ht
  · rintro ⟨b, hb, ht⟩
    exact ⟨_, ⟨b, hb, rfl⟩, by simpa [List.getD, hb] using ht⟩
theorem mem_blockT_iff {n b : Nat} {x : JBlock} {t : Thg} : t ∈ blockT n b x ↔ (∃ i, i < x.phis.length ∧ t = phiT b x i) ∨ (∃ i, i < x.ins.length ∧ t = insT b x i) ∨ t = termT n b x := by
  simp only [blockT, phisT, inssT, List.mem_append, List.mem_map, List.mem_range, List.mem_singleton]
  constructor
  · rintro (⟨i, hi, rfl⟩ | ⟨i, hi, rfl⟩ | rfl)
    · exact .inl ⟨i, hi, rfl⟩
    · exact .inr (.inl ⟨i, hi, rfl⟩)
    · exact .inr (.inr rfl)
  · rintro (⟨i, hi, rfl⟩ | ⟨i, hi, rfl⟩ | rfl)
    · exact .inl ⟨i, hi, rfl⟩
    · exact .inr (.inl ⟨i, hi, rfl⟩)
    · exact .inr (.inr rfl)
/-- it is made in block a at place p -/
def MadeAt (bs : List JBlock) (v : Int) (a : Nat) (p : Int) : Prop :=
  ∃ ha : a < bs.length, (∃ i, ∃ hi : i < bs[a].phis.length, p = -1 - (i : Int) ∧ v = bs[a].phis[i].dst) ∨ (∃ i, ∃ hi : i < bs[a].ins.length, p = (i : Int) ∧ v ∈ makesF bs[a].ins[i])
theorem mem_madeAll {bs : List JBlock} {v a p : Int} : (v, (a, p)) ∈ madeAll bs ↔ ∃ a' : Nat, a = (a' : Int) ∧ MadeAt bs v a' p := by
  rw [madeAll, mkAfter_eq, List.nil_append, List.mem_flatMap]
  constructor
  · rintro ⟨t, ht, hm⟩
    obtain ⟨b, hb, ht⟩ := mem_blocksT_iff.1 ht
    obtain ⟨n, hn, he⟩ := List.mem_map.1 hm
    injection he with e1 e2
    injection e2 with e2 e3
    subst e1 e2 e3
    rcases mem_blockT_iff.1 ht with ⟨i, hi, rfl⟩ | ⟨i, hi, rfl⟩ | rfl
    · refine ⟨b, rfl, hb, .inl ⟨i, hi, rfl, ?_⟩⟩
      simpa [phiT, List.getD, hi] using hn
    · refine ⟨b, rfl, hb, .inr ⟨i, hi, rfl, ?_⟩⟩
      simpa [insT, List.getD, hi] using hn
    · simp [termT] at hn
  · rintro ⟨b, rfl, hb, ⟨i, hi, rfl, rfl⟩ | ⟨i, hi, rfl, hv⟩⟩
    · refine ⟨phiT b bs[b] i, mem_blocksT_iff.2 ⟨b, hb, mem_blockT_iff.2 (.inl ⟨i, hi, rfl⟩)⟩, List.mem_map.2 ⟨_, ?_, rfl⟩⟩
      simp [phiT, List.getD, hi]
    · refine ⟨insT b bs[b] i, mem_blocksT_iff.2 ⟨b, hb, mem_blockT_iff.2 (.inr (.inl ⟨i, hi, rfl⟩))⟩, List.mem_map.2 ⟨_, ?_, rfl⟩⟩
      simpa [insT, List.getD, hi] using hv

/-! ### a value stands -/
def Stand (params : Int) (bs : List JBlock) (v : Int) (b : Nat) (at_ : Int) : Prop :=
  (0 ≤ v ∧ v < params) ∨ ∃ a p, MadeAt bs v a p ∧ ((a = b ∧ (p < at_ ∨ p < 0)) ∨ (a ≠ b ∧ ¬ Rwo (ofF bs) a b))
theorem useB_iff {params : Int} {bs : List JBlock} {idom : List Int} (hid : IdomOk (ofF bs) idom) {v : Int} {b : Nat} (hb : b < bs.length) {at_ : Int} :
    useB params (madeAll bs) (domF idom) v b at_ = true ↔ Stand params bs v b at_ := by
  simp only [useB, Bool.or_eq_true, decide_eq_true_eq, List.any_eq_true, Bool.and_eq_true, beq_iff_eq, Stand]
  refine or_congr Iff.rfl ?_
  constructor
  · rintro ⟨⟨v', a, p⟩, hm, rfl, ho⟩
    obtain ⟨a, rfl, hma⟩ := mem_madeAll.1 hm
    refine ⟨a, p, hma, ?_⟩
    have hal : a < bs.length := hma.1
    simp only [okAt, Bool.or_eq_true, Bool.and_eq_true, beq_iff_eq, decide_eq_true_eq, bne_iff_ne, ne_eq] at ho
    rcases ho with ⟨h1, h2⟩ | ⟨h1, h2⟩
    · exact .inl ⟨by omega, h2⟩
    · exact .inr ⟨by omega, (hid.2 a b (by simpa using hal) (by simpa using hb)).1 h2⟩
  · rintro ⟨a, p, hma, ho⟩
    refine ⟨(v, (a, p)), mem_madeAll.2 ⟨a, rfl, hma⟩, rfl, ?_⟩
    have hal : a < bs.length := hma.1
    simp only [okAt, Bool.or_eq_true, Bool.and_eq_true, beq_iff_eq, decide_eq_true_eq, bne_iff_ne, ne_eq]
    rcases ho with ⟨rfl, h2⟩ | ⟨h1, h2⟩
    · exact .inl ⟨rfl, h2⟩
    · exact .inr ⟨by omega, (hid.2 a b (by simpa using hal) (by simpa using hb)).2 h2⟩

/-! ### a function that may be -/
def thingsN (bs : List JBlock) : Nat := (bs.map fun b => b.phis.length + b.ins.length).sum
structure RightF (f : JFunc) : Prop where
  params : 0 ≤ f.params ∧ f.params ≤ 4
  ne : 0 < f.blocks.length
  many : f.blocks.length ≤ 512
  things : f.blocks.length + thingsN f.blocks ≤ 4096
  ins : ∀ x ∈ f.blocks, ∀ s ∈ x.ins, (1 ≤ s.op ∧ s.op ≤ 18) ∧ (opersF s.op).1 ≤ s.args.length ∧ s.args.length ≤ (opersF s.op).2
  term : ∀ x ∈ f.blocks, termOk x.term = true
  to : ∀ x ∈ f.blocks, ∀ t ∈ x.term.to, 1 ≤ t ∧ t ≤ (f.blocks.length : Int) - 1
  vals : ∀ v ∈ valsF f.blocks, f.params ≤ v ∧ v ≤ 8191
  once : (valsF f.blocks).Nodup
  reach : AllR (ofF f.blocks)
  phis : ∀ b (hb : b < f.blocks.length), ∀ p ∈ f.blocks[b].phis, 0 < b ∧ p.ins.map (·.src) = (prd (ofF f.blocks) b).map Int.ofNat
  useP : ∀ b (hb : b < f.blocks.length), ∀ p ∈ f.blocks[b].phis, ∀ n ∈ p.ins, ∀ a (ha : a < f.blocks.length), n.src = (a : Int) → Stand f.params f.blocks n.val a f.blocks[a].ins.length
  useI : ∀ b (hb : b < f.blocks.length) i (hi : i < f.blocks[b].ins.length), ∀ v ∈ f.blocks[b].ins[i].args, Stand f.params f.blocks v b i
  useT : ∀ b (hb : b < f.blocks.length), ∀ v ∈ f.blocks[b].term.args, Stand f.params f.blocks v b f.blocks[b].ins.length

theorem onceC_ok {b p : Int} : ∀ (l : List Int) (mk : Mk), ((mkAll mk l b p).map (·.1)).Nodup → ∀ c ∈ onceC mk l b p, c.1 = true
  | [], _, _, _, hc => by cases hc
  | n :: l, mk, h, c, hc => by
    simp only [onceC, List.mem_cons] at hc
    have e : mkAll mk (n :: l) b p = mkAll (mk ++ [(n, (b, p))]) l b p := by simp [mkAll]
    rcases hc with rfl | hc
    · simp only [Bool.not_eq_true']
      refine List.any_eq_false.2 fun x hx => ?_
      simp only [beq_iff_eq]
      rintro rfl
      simp only [mkAll, List.map_append, List.map_cons] at h
      exact (List.nodup_append.1 h).2.2 x.1 (List.mem_map.2 ⟨x, hx, rfl⟩) x.1 (by simp) rfl
    · exact onceC_ok l _ (e ▸ h) c hc
theorem thgsC_ok {params : Int} : ∀ (ts : List Thg) (mk : Mk), (∀ t ∈ ts, ∀ c ∈ t.pre, c.1 = true) → (∀ t ∈ ts, ∀ n ∈ t.mks, params ≤ n ∧ n ≤ 8191) → ((mkAfter mk ts).map (·.1)).Nodup →
    ∀ c ∈ thgsC params mk ts, c.1 = true
  | [], _, _, _, _, c, hc => by cases hc
  | t :: ts, mk, h1, h2, h3, c, hc => by
    rw [thgsC_cons, List.mem_append, List.mem_append] at hc
    have h4 : ((mkAfter (mkAll mk t.mks t.b t.p) ts).map (·.1)).Nodup := h3
    rcases hc with hc | hc | hc
    · exact h1 t (by simp) c hc
    · rw [allC, List.mem_append] at hc
      rcases hc with hc | hc
      · obtain ⟨n, hn, rfl⟩ := List.mem_map.1 hc
        simpa using h2 t (by simp) n hn
      · refine onceC_ok t.mks mk ?_ c hc
        rw [mkAfter_eq, List.map_append] at h4
        exact (List.nodup_append.1 h4).1
    · exact thgsC_ok ts _ (fun t ht => h1 t (by simp [ht])) (fun t ht => h2 t (by simp [ht])) h4 c hc
theorem right_shape {f : JFunc} (h : RightF f) : runC (shapeC f.params f.blocks) = none := by
  refine runC_none.2 (thgsC_ok _ _ ?_ ?_ ?_)
  · intro t ht c hc
    obtain ⟨b, hb, ht⟩ := mem_blocksT_iff.1 ht
    rcases mem_blockT_iff.1 ht with ⟨i, hi, rfl⟩ | ⟨i, hi, rfl⟩ | rfl
    · simp [phiT] at hc
    · have h1 := h.ins _ (List.getElem_mem hb) _ (List.getElem_mem hi)
      simp only [insT, List.mem_cons, List.not_mem_nil, or_false] at hc
      have e : f.blocks[b].ins.getD i default = f.blocks[b].ins[i] := by simp [List.getD, hi]
      rw [e] at hc
      rcases hc with rfl | rfl
      · simpa using h1.1
      · simpa using h1.2
    · simp only [termT, List.mem_cons] at hc
      rcases hc with rfl | hc
      · exact h.term _ (List.getElem_mem hb)
      · obtain ⟨t, ht, rfl⟩ := List.mem_map.1 hc
        simpa using h.to _ (List.getElem_mem hb) t ht
  · intro t ht n hn
    refine h.vals n ?_
    rw [← madeAll_fst]
    refine List.mem_map.2 ⟨(n, (t.b, t.p)), ?_, rfl⟩
    rw [madeAll, mkAfter_eq, List.nil_append]
    exact List.mem_flatMap.2 ⟨t, ht, List.mem_map.2 ⟨n, hn, rfl⟩⟩
  · have := h.once
    rwa [← madeAll_fst] at this
theorem right_uses {f : JFunc} (h : RightF f) {idom : List Int} (hid : IdomOk (ofF f.blocks) idom) : runC (usesC f.params (madeAll f.blocks) (domF idom) f.blocks) = none := by
  have hg := ofF_good f.blocks
  rw [usesC, runC_append, (reach_all hg (by simpa using h.ne)).2 h.reach]
  simp only []
  refine runC_none.2 fun c hc => ?_
  obtain ⟨l, hl, hc⟩ := List.mem_flatten.1 hc
  obtain ⟨b, hb, rfl⟩ := List.mem_map.1 hl
  have hb : b < f.blocks.length := List.mem_range.1 hb
  have e : f.blocks.getD b default = f.blocks[b] := by simp [List.getD, hb]
  rw [e] at hc
  simp only [blockU, List.mem_append] at hc
  rcases hc with hc | hc | hc
  · obtain ⟨l, hl, hc⟩ := List.mem_flatten.1 hc
    obtain ⟨i, hi, rfl⟩ := List.mem_map.1 hl
    have hi : i < f.blocks[b].phis.length := List.mem_range.1 hi
    have e2 : f.blocks[b].phis.getD i default = f.blocks[b].phis[i] := by simp [List.getD, hi]
    obtain ⟨h1, h2⟩ := h.phis b hb _ (List.getElem_mem hi)
    rw [phiU, e2, List.mem_cons] at hc
    rcases hc with rfl | hc
    · simp only [phiFits, Bool.and_eq_true, decide_eq_true_eq]
      refine ⟨⟨h1, ?_⟩, h2⟩
      have := congrArg List.length h2
      simpa using this
    · obtain ⟨n, hn, rfl⟩ := List.mem_map.1 hc
      have h3 : n.src ∈ (prd (ofF f.blocks) b).map Int.ofNat := by rw [← h2]; exact List.mem_map.2 ⟨n, hn, rfl⟩
      obtain ⟨a, ha, hae⟩ := List.mem_map.1 h3
      have hae : n.src = (a : Int) := hae.symm
      have hal : a < f.blocks.length := by
        have := (Ed.lt hg ((mem_prd (by simpa using hb)).1 ha)).1
        simpa using this
      simp only [inU]
      rw [hae, useB_iff hid hal]
      have := h.useP b hb _ (List.getElem_mem hi) n hn a hal hae
      simpa [List.getD, hal] using this
  · obtain ⟨l, hl, hc⟩ := List.mem_flatten.1 hc
    obtain ⟨i, hi, rfl⟩ := List.mem_map.1 hl
    have hi : i < f.blocks[b].ins.length := List.mem_range.1 hi
    have e2 : f.blocks[b].ins.getD i default = f.blocks[b].ins[i] := by simp [List.getD, hi]
    rw [insU, e2] at hc
    obtain ⟨v, hv, rfl⟩ := List.mem_map.1 hc
    exact (useB_iff hid hb).2 (h.useI b hb i hi v hv)
  · obtain ⟨v, hv, rfl⟩ := List.mem_map.1 hc
    exact (useB_iff hid hb).2 (h.useT b hb v hv)
end Go.Proofs.Ytkmgbejhbkbaoaa
