/- A range over a function, where the body writes into what it owns: the blocks that it owns are told at each round. -/
import Derived.Test.YtkmgbejhbkbaoaaL3
import Derived.RangeFuncNested
import Derived.RangeFuncBound
import Derived.RangeFuncCalls
import Derived.RangeFuncLeaves
import Derived.Shelf.Abstract
import Derived.OwnWalkIn
import Derived.TacticsInMore
import Derived.LoopNIn
import Derived.LoopIn
namespace Go.Proofs.Ytkmgbejhbkbaoaa
set_option linter.unusedSimpArgs false
set_option linter.unusedVariables false
open Go.RowKit

theorem Ext.putObj {M : List Nat} {a b : World} (h : Ext M a b) {l : Nat} (hl : l ∈ M ∨ a.heap.size ≤ l) (o : Obj) : Ext M a (b.putObj l o) :=
  ⟨h.os, h.tape, h.output, by have := h.size; simp [World.putObj]; omega, fun k hk hn =>
    (World.putObj_heap_other (by rintro rfl; rcases hl with h1 | h1; exact hn h1; omega)).trans (h.block k hk hn)⟩

/-- behind a round or a call: the footprint has grown by new blocks alone -/
def FpStep (S : List Nat) (W W' : World) (S' : List Nat) : Prop := Ext S W W' ∧ ∀ k ∈ S', k ∈ S ∨ W.heap.size ≤ k
theorem FpStep.trans {S S1 S2 : List Nat} {A B C : World} (h : FpStep S A B S1) (k : FpStep S1 B C S2) : FpStep S A C S2 :=
  ⟨h.1.trans k.1 h.2, fun x hx => by
    rcases k.2 x hx with h1 | h1
    · exact h.2 x h1
    · exact .inr (Nat.le_trans h.1.size h1)⟩
theorem FpStep.refl (S : List Nat) (W : World) : FpStep S W W S := ⟨Ext.refl _ _, fun _ h => .inl h⟩

/-- an iterator's contract: it hands on xs one by one; between two rounds the caller owns the blocks S, of which the iterator reads none -/
def IterFp {α : Type} (n : Nat) (P : Program) (gf : Nat) (lb : Array Value) (encs : α → Array Value) (xs : List α) (Sg : List Nat) (w : World) : Prop :=
  ∀ (l : Nat) (T Tx : List α → List Nat → World → Prop) (So : List Nat) (W : World), Ext [] w W →
    (∀ pre S A B, T pre S A → Ext [] A B → T pre S B) →
    (∀ pre x S W1, T pre S W1 → pre ++ [x] <+: xs → (∀ k ∈ S, k < W1.heap.size) → YieldAt Fence.wide (n - 1) P l (encs x) W1 fun e W' =>
      ∃ S', FpStep S W1 W' S' ∧ (∀ k ∈ S', k < W'.heap.size) ∧ ((e = .returned (.bool true) ∧ T (pre ++ [x]) S' W') ∨ (e = .returned (.bool false) ∧ Tx (pre ++ [x]) S' W'))) →
    T [] So W → (∀ k ∈ So, k ∉ Sg ∧ k < W.heap.size) →
    CallsIn Fence.wide n P gf (#[.func (.yield l) #[] #[]] ++ lb) W fun e W' => (∃ v, e = .returned v) ∧ ∃ S', FpStep So W W' S' ∧ (T xs S' W' ∨ ∃ pre, pre <+: xs ∧ Tx pre S' W')

/-- how the body of a round may be left -/
def fpPost {α : Type} (T : List α → List Nat → World → Prop) (Tx : Code → List α → List Nat → World → Prop) (xs : List α) (S : List Nat) (W : World) : Exit → Act → World → Prop
  | .normal, _, W' => ∃ S', FpStep S W W' S' ∧ (∀ k ∈ S', k < W'.heap.size) ∧ T xs S' W'
  | .ret, _, W' => ∃ S', FpStep S W W' S' ∧ (∀ k ∈ S', k < W'.heap.size) ∧ Tx .ret xs S' W'
  | .exit id, _, W' => ∃ S', FpStep S W W' S' ∧ (∀ k ∈ S', k < W'.heap.size) ∧ Tx (.exit id) xs S' W'
  | .goto t, _, W' => ∃ S', FpStep S W W' S' ∧ (∀ k ∈ S', k < W'.heap.size) ∧ Tx (.goto t) xs S' W'
  | .panic _, _, _ => False
  | .outgrown, _, _ => False

theorem wpIn_range_fp {α : Type} {n : Nat} {P : Program} {g : Operand} {ps : Array Tmp} {assign body : Code} {Q : Exit → Act → World → Prop} {a : Act} {w : World}
    {gf : Nat} {lb : Array Value} (hg : a.eval g = .func (.func gf) #[] lb) (eg : ∀ args w, (callFunc gf args).run P w = .ok (.enter gf args) w)
    {encs : α → Array Value} {xs : List α} {Sg : List Nat} {w0 : World} (hseq : IterFp (n - 1) P gf lb encs xs Sg w0) (hb0 : Ext [] w0 w) (hps : ∀ x, (encs x).size = ps.size)
    (T : List α → List Nat → World → Prop) (Tx : Code → List α → List Nat → World → Prop) (So : List Nat)
    (hT : ∀ pre S M A B, T pre S A → Ext M A B → (∀ k ∈ M, k ∉ S ∧ w.heap.size ≤ k) → T pre S B)
    (hTx : ∀ c pre S M A B, Tx c pre S A → Ext M A B → (∀ k ∈ M, k ∉ S ∧ w.heap.size ≤ k) → Tx c pre S B)
    (h0 : T [] So w) (hSo : ∀ k ∈ So, k ∉ Sg ∧ k < w.heap.size) (hSg : ∀ k ∈ Sg, k < w.heap.size) (a₁ : α → Act)
    (hassign : ∀ (l : Nat) (x : α) (W : World) (K : Act → World → Prop), K (a₁ x) W →
      assign.wpIn (Fence.wide.inRound l) (n - 1 - 1) P (Exit.then K (fun _ _ _ => False)) { tmps := (ps.zip (encs x)).foldl (fun t (p, v) => t.setIfInBounds p v) a.tmps, defers := [] } W)
    (hbody : ∀ (l : Nat) (pre : List α) (x : α) (S : List Nat) (W : World), T pre S W → pre ++ [x] <+: xs → (∀ k ∈ S, k < W.heap.size) → w.heap.size < W.heap.size →
      body.wpIn (Fence.wide.inRound l) (n - 1 - 1) P (fpPost T Tx (pre ++ [x]) S W) (a₁ x) W)
    (hdone : ∀ (D : Nat) (S : List Nat) (W : World), w.heap.size ≤ D → D ∉ S → T xs S W → FpStep So w W S → W.heap[D]? = some (.deferred (some [])) →
      Q .normal { a with defers := { target := .collected D, args := #[] } :: a.defers } W)
    (hstop : ∀ (D : Nat) (c : Code) (pre : List α) (S : List Nat) (W : World), w.heap.size ≤ D → D ∉ S → pre <+: xs → Tx c pre S W → FpStep So w W S → W.heap[D]? = some (.deferred (some [])) →
      c.wpIn Fence.wide n P Q { a with defers := { target := .collected D, args := #[] } :: a.defers } W) :
    (Code.rangeFunc g ps assign body).wpIn Fence.wide n P Q a w := by
  refine wpIn_rangeFunc ?_
  intro fn hfn
  obtain ⟨rec, hrec⟩ : ∃ rec : LoopState → Option Code → Loop, rec = fun st pe => { state := st, pending := pe, fn, tmps := a.tmps, params := ps, assign, body, defers := w.heap.size } := ⟨_, rfl⟩
  obtain ⟨W1, hW1⟩ : ∃ W1, (w.alloc (.deferred (some []))).alloc (.loop (rec .ready none)) = W1 := ⟨_, rfl⟩
  have hL1 : W1.heap[w.heap.size + 1]? = some (.loop (rec .ready none)) := by
    rw [← hW1]; have := World.alloc_heap_new (w.alloc (.deferred (some []))) (.loop (rec .ready none)); rwa [World.size_alloc] at this
  have hK1 : W1.heap[w.heap.size]? = some (.deferred (some [])) := by
    rw [← hW1]; exact (Below.heap_alloc _ _ _ (by simp)).trans (World.alloc_heap_new w _)
  have hx1 : Ext [] w W1 := by rw [← hW1]; exact ((Ext.refl _ _).alloc _).alloc _
  have hsz1 : W1.heap.size = w.heap.size + 2 := by rw [← hW1]; simp
  refine ⟨w.heap.size + 1, [{ target := .collected w.heap.size, args := #[] }], W1, { target := .fn (.func gf) lb, args := #[.func (.yield (w.heap.size + 1)) #[] #[]] }, W1, gf,
    #[.func (.yield (w.heap.size + 1)) #[] #[]] ++ lb, W1, ?_, ?_, ?_, ?_, fun h => (by simp [Fence.wide] at h), ?_⟩
  · rw [← hW1, hrec]; exact run_enterLoop_outer _ _ _ _ _
  · simp only [resolve, hg]
    simp [go_sem]
  · intro f' _; trivial
  · simp [invoke, go_sem, eg]
  · let T' : List α → List Nat → World → Prop := fun pre S W => ∃ S0, S = (w.heap.size + 1) :: S0 ∧ (∀ k ∈ S0, k ≠ w.heap.size ∧ k ≠ w.heap.size + 1) ∧ T pre S0 W ∧ FpStep So w W S0 ∧
      W.heap[w.heap.size + 1]? = some (.loop (rec .ready none)) ∧ W.heap[w.heap.size]? = some (.deferred (some []))
    let Tx' : List α → List Nat → World → Prop := fun pre S W => ∃ S0 c, S = (w.heap.size + 1) :: S0 ∧ (∀ k ∈ S0, k ≠ w.heap.size ∧ k ≠ w.heap.size + 1) ∧ Tx c pre S0 W ∧ FpStep So w W S0 ∧
      W.heap[w.heap.size + 1]? = some (.loop (rec .done (some c))) ∧ W.heap[w.heap.size]? = some (.deferred (some []))
    refine (hseq (w.heap.size + 1) T' Tx' ((w.heap.size + 1) :: So) W1 (hb0.trans hx1 (by simp)) ?_ ?_ ?_ ?_).mono ?_
    · rintro pre S A B ⟨S0, hS, hk, ht, hfs, hl, hd⟩ hx
      have l1 := (Array.getElem?_eq_some_iff.1 hl).1
      have l2 := (Array.getElem?_eq_some_iff.1 hd).1
      exact ⟨S0, hS, hk, hT _ _ _ _ _ ht hx (by simp), ⟨hfs.1.nil hx, hfs.2⟩, (hx.block _ l1 (by simp)).trans hl, (hx.block _ l2 (by simp)).trans hd⟩
    · -- one round
      rintro pre x S W ⟨S0, rfl, hne, ht, hfs, hl, hk⟩ hpre hlt
      have hlt1 : w.heap.size + 1 < W.heap.size := (Array.getElem?_eq_some_iff.1 hl).1
      have hnl : w.heap.size + 1 ∉ S0 := fun h => (hne _ h).2 rfl
      have hnd : w.heap.size ∉ S0 := fun h => (hne _ h).1 rfl
      have hy := run_yield (P := P) (args := encs x) hl (by rw [hrec]; exact hps x)
      rw [hrec] at hy
      refine ⟨fn, _, assign, body, hy, roundIn_of_wpIn hfn (hassign _ x W _ ⟨_, run_beginRound hl (by rw [hrec]), ?_⟩)⟩
      obtain ⟨WB, hWB⟩ : ∃ WB, W.putObj (w.heap.size + 1) (.loop { rec .ready none with state := .busy }) = WB := ⟨_, rfl⟩
      rw [hWB]
      have hxB : Ext [w.heap.size + 1] W WB := by rw [← hWB]; exact (Ext.refl _ _).putObj (.inl (by simp)) _
      have hszB : WB.heap.size = W.heap.size := by rw [← hWB]; simp [World.putObj]
      have hl2 : WB.heap[w.heap.size + 1]? = some (.loop { rec .ready none with state := .busy }) := by rw [← hWB]; exact World.putObj_heap_same hlt1
      have hk2 : WB.heap[w.heap.size]? = some (.deferred (some [])) := by rw [← hWB]; exact (World.putObj_heap_other (by omega)).trans hk
      have htB : T pre S0 WB := hT _ _ _ _ _ ht hxB (by simpa using hnl)
      refine wpIn_mono (hbody _ pre x S0 WB htB hpre (fun k hk => by have := hlt k (by simp [hk]); omega) (by omega)) ?_
      have fin : ∀ (jump : Option Code) (W3 : World) (S3 : List Nat), FpStep S0 WB W3 S3 → (∀ k ∈ S3, k < W3.heap.size) →
          (Instr.endRound (w.heap.size + 1) jump).run P W3 = .ok (.bool jump.isNone) (W3.putObj (w.heap.size + 1) (.loop (rec (if jump.isNone then .ready else .done) jump))) ∧
          (W3.putObj (w.heap.size + 1) (.loop (rec (if jump.isNone then .ready else .done) jump))).heap[w.heap.size + 1]? = some (.loop (rec (if jump.isNone then .ready else .done) jump)) ∧
          (W3.putObj (w.heap.size + 1) (.loop (rec (if jump.isNone then .ready else .done) jump))).heap[w.heap.size]? = some (.deferred (some [])) ∧
          Ext [w.heap.size + 1] W3 (W3.putObj (w.heap.size + 1) (.loop (rec (if jump.isNone then .ready else .done) jump))) ∧ (∀ k ∈ S3, k ≠ w.heap.size ∧ k ≠ w.heap.size + 1) ∧
          FpStep ((w.heap.size + 1) :: S0) W (W3.putObj (w.heap.size + 1) (.loop (rec (if jump.isNone then .ready else .done) jump))) ((w.heap.size + 1) :: S3) ∧
          FpStep So w (W3.putObj (w.heap.size + 1) (.loop (rec (if jump.isNone then .ready else .done) jump))) S3 ∧
          (∀ k ∈ (w.heap.size + 1) :: S3, k < (W3.putObj (w.heap.size + 1) (.loop (rec (if jump.isNone then .ready else .done) jump))).heap.size) := fun jump W3 S3 hfp hS3 => by
        have hl3 := (hfp.1.block _ (by omega) hnl).trans hl2
        have hk3 := (hfp.1.block _ (by omega) hnd).trans hk2
        have e1 := run_endRound (P := P) jump hl3
        rw [hrec] at e1
        have hP : Ext [w.heap.size + 1] W3 (W3.putObj (w.heap.size + 1) (.loop (rec (if jump.isNone then .ready else .done) jump))) := (Ext.refl _ _).putObj (.inl (by simp)) _
        have hn3 : ∀ k ∈ S3, k ≠ w.heap.size ∧ k ≠ w.heap.size + 1 := fun k hk => by
          rcases hfp.2 k hk with h1 | h1
          · exact hne k h1
          · omega
        have hs3 : W3.heap.size = (W3.putObj (w.heap.size + 1) (.loop (rec (if jump.isNone then .ready else .done) jump))).heap.size := by simp [World.putObj]
        have hss := hfp.1.size
        refine ⟨by rw [hrec]; exact e1, World.putObj_heap_same (Array.getElem?_eq_some_iff.1 hl3).1, (World.putObj_heap_other (by omega)).trans hk3, hP, hn3, ⟨?_, ?_⟩, ⟨?_, ?_⟩, ?_⟩
        · refine ((hxB.mono (by simp)).trans hfp.1 fun k hk => .inl (by simp [hk])).trans hP fun k hk => .inl (by simp at hk; simp [hk])
        · intro k hk
          rcases List.mem_cons.1 hk with rfl | hk
          · exact .inl (by simp)
          · rcases hfp.2 k hk with h1 | h1
            · exact .inl (by simp [h1])
            · exact .inr (by omega)
        · exact ((hfs.1.trans hxB fun k hk => .inr (by simp at hk; omega)).trans hfp.1 hfs.2).trans hP fun k hk => .inr (by simp at hk; omega)
        · intro k hk
          rcases hfp.2 k hk with h1 | h1
          · exact hfs.2 k h1
          · have := hfs.1.size; exact .inr (by omega)
        · intro k hk
          rw [← hs3]
          rcases List.mem_cons.1 hk with rfl | hk
          · omega
          · exact hS3 k hk
      rintro e a3 W3 hp
      cases e with
      | normal =>
        obtain ⟨S3, hfp, hS3, ht3⟩ := hp
        obtain ⟨hr, hl4, hk4, hP, hn3, hst, hso3, hlt3⟩ := fin none W3 S3 hfp hS3
        exact ⟨_, _, hr, _, hst, hlt3, .inl ⟨rfl, S3, rfl, hn3, hT _ _ _ _ _ ht3 hP (by simpa using fun h => (hn3 _ h).2 rfl), hso3, hl4, hk4⟩⟩
      | ret =>
        obtain ⟨S3, hfp, hS3, ht3⟩ := hp
        obtain ⟨hr, hl4, hk4, hP, hn3, hst, hso3, hlt3⟩ := fin (some .ret) W3 S3 hfp hS3
        exact ⟨_, _, hr, _, hst, hlt3, .inr ⟨rfl, S3, .ret, rfl, hn3, hTx _ _ _ _ _ _ ht3 hP (by simpa using fun h => (hn3 _ h).2 rfl), hso3, hl4, hk4⟩⟩
      | exit id =>
        obtain ⟨S3, hfp, hS3, ht3⟩ := hp
        obtain ⟨hr, hl4, hk4, hP, hn3, hst, hso3, hlt3⟩ := fin (some (.exit id)) W3 S3 hfp hS3
        exact ⟨_, _, hr, _, hst, hlt3, .inr ⟨rfl, S3, .exit id, rfl, hn3, hTx _ _ _ _ _ _ ht3 hP (by simpa using fun h => (hn3 _ h).2 rfl), hso3, hl4, hk4⟩⟩
      | goto t =>
        obtain ⟨S3, hfp, hS3, ht3⟩ := hp
        obtain ⟨hr, hl4, hk4, hP, hn3, hst, hso3, hlt3⟩ := fin (some (.goto t)) W3 S3 hfp hS3
        exact ⟨_, _, hr, _, hst, hlt3, .inr ⟨rfl, S3, .goto t, rfl, hn3, hTx _ _ _ _ _ _ ht3 hP (by simpa using fun h => (hn3 _ h).2 rfl), hso3, hl4, hk4⟩⟩
      | panic ch => exact hp.elim
      | outgrown => exact hp.elim
    · exact ⟨So, rfl, fun k hk => by have := (hSo k hk).2; omega, hT _ _ _ _ _ h0 hx1 (by simp), ⟨hx1.mono (by simp), fun _ h => .inl h⟩, hL1, hK1⟩
    · intro k hk
      rcases List.mem_cons.1 hk with rfl | hk
      · exact ⟨fun h => by have := hSg _ h; omega, by omega⟩
      · exact ⟨(hSo k hk).1, by have := (hSo k hk).2; omega⟩
    · -- behind the iterator
      rintro e W2 ⟨⟨v, rfl⟩, S', hfp, (⟨S0, rfl, hne, ht, hfs, hl, hk⟩ | ⟨pre, hpre, S0, c, rfl, hne, ht, hfs, hl, hk⟩)⟩
      all_goals
        have hM : ∀ k ∈ [w.heap.size + 1], k ∉ S0 ∧ w.heap.size ≤ k := by
          intro k hk; simp at hk; subst hk; exact ⟨fun h => (hne _ h).2 rfl, by omega⟩
      · refine ⟨none, _, by have := run_endLoop (P := P) hl (by rw [hrec]; simp); rw [hrec] at this; exact this, ?_⟩
        have hxE : Ext [w.heap.size + 1] W2 (W2.putObj (w.heap.size + 1) (.loop { state := .exhausted, pending := none, fn, tmps := a.tmps, params := ps, assign, body, defers := w.heap.size })) := (Ext.refl _ _).putObj (.inl (by simp)) _
        exact hdone _ S0 _ (Nat.le_refl _) (fun h => (hne _ h).1 rfl) (hT _ _ _ _ _ ht hxE hM) ⟨hfs.1.trans hxE fun k hk => .inr (hM k hk).2, hfs.2⟩ ((World.putObj_heap_other (by omega)).trans hk)
      · refine ⟨some c, _, by have := run_endLoop (P := P) hl (by rw [hrec]; simp); rw [hrec] at this; exact this, ?_⟩
        have hxE : Ext [w.heap.size + 1] W2 (W2.putObj (w.heap.size + 1) (.loop { state := .exhausted, pending := some c, fn, tmps := a.tmps, params := ps, assign, body, defers := w.heap.size })) := (Ext.refl _ _).putObj (.inl (by simp)) _
        exact hstop _ c pre S0 _ (Nat.le_refl _) (fun h => (hne _ h).1 rfl) hpre (hTx _ _ _ _ _ _ ht hxE hM) ⟨hfs.1.trans hxE fun k hk => .inr (hM k hk).2, hfs.2⟩ ((World.putObj_heap_other (by omega)).trans hk)

theorem wpListIn_append_sl {α : Type} {d : Kd α} {F : Fence} {n : Nat} {P : Program} {w : World} {ops : Array Oper} {rest : List Oper} {o : Oper} {a : Act} {Q : Exit → Act → World → Prop} {e : TypeId} {bytes : Nat} (hgd : o.guard = none) (s x : Operand) (t : TypeId)
    (ho : o.op = .call { callee := .builtin .append, args := #[s, x], argTypes := #[t, t] })
    {S : List Nat} {v xv : Value} {xs ys : List α} (he : EI P t e d.sz bytes) (hs : a.eval s = v) (h : SlR d e w S v xs) (hxv : a.eval x = xv) (news : List Value) (Sy : List (List Nat))
    (hy : Elems d w Sy news ys) (hl : news.length = ys.length * d.sz) (h1 : ∀ u ∈ news, u.oneCell' = true) (hx : Src w xv ys.length news) (hdis : ∀ k ∈ Sy.flatten, k ∉ S)
    (h63 : xs.length + ys.length ≤ maxLen) (hb : (xs.length + ys.length) * bytes ≤ 140737488355328)
    (hk : ∀ v' w' S', SlR d e w' S' v' (xs ++ ys) → Ext S w w' → (∀ k ∈ S', k ∈ S ∨ k = w.heap.size ∨ k ∈ Sy.flatten) → (S.Nodup → Sy.flatten.Nodup → S'.Nodup) → wpListIn F n P ops Q rest (a.put o.dst v') w') : wpListIn F n P ops Q (o :: rest) a w := by
  refine wpListIn_plain hgd fun _ hK => ?_
  obtain ⟨v', w', S', hr, h2, h3, h4, h5⟩ := run_append_sl (ty := o.type) he h xv news Sy hy hl h1 hx hdis h63 hb
  unfold Oper.wpIn
  refine ⟨?_, ?_⟩
  · simp [Oper.about, ho, resolve, Target.leads, Sem.run_pure]
  · rw [Oper.semAt_plain F _ _ (by rw [ho]; intro c hc'; cases hc')]
    unfold execOp
    simp only [ho, resolve, invoke, builtin, Sem.run_bind, Sem.run_pure, Result.andThen_ok, List.map_toArray, List.map_cons, List.map_nil, hs, hxv, hr]
    exact hK _ _ (hk v' w' S' h2 h3 h4 h5)
end Go.Proofs.Ytkmgbejhbkbaoaa
