/- The program's check, whole. -/
import Derived.Test.YtkmgbejhbkbaoaaC8
import Derived.Test.YtkmgbejhbkbaoaaC9
namespace Go.Proofs.Ytkmgbejhbkbaoaa
set_option linter.unusedSimpArgs false
set_option linter.unusedVariables false
open Go.RowKit
def headC (f : JFunc) : List Ck :=
  [(decide (0 ≤ f.params ∧ f.params ≤ 4), (1, 0, 0)), (decide (0 < f.blocks.length), (14, 0, 0)), (decide ((f.blocks.length : Int) ≤ 512) && decide (((f.blocks.length + thingsN f.blocks : Nat) : Int) ≤ 4096), (2, 0, 0))]
def frontC (f : JFunc) : List Ck := headC f ++ shapeC f.params f.blocks
def funcC (f : JFunc) (idom : List Int) : List Ck := frontC f ++ usesC f.params (madeAll f.blocks) (domF idom) f.blocks
def resC : Option Tro → Value
  | none => .tuple #[.int .i64 0, .int .i64 0, .int .i64 0]
  | some t => .tuple #[.int .i64 t.1, .int .i64 t.2.1, .int .i64 t.2.2]
def FuncPost (w : World) (f : JFunc) (e : Ending) (w' : World) : Prop := ∃ idom, (runC (frontC f) = none → AllR (ofF f.blocks) → IdomOk (ofF f.blocks) idom) ∧ e = .returned (resC (runC (funcC f idom))) ∧ Ext [] w w'
theorem funcC_front {f : JFunc} {t : Tro} (h : runC (frontC f) = some t) (idom : List Int) : runC (funcC f idom) = some t := by rw [funcC, runC_append, h]
theorem FuncPost.front {w w' : World} {f : JFunc} {t : Tro} (h : runC (frontC f) = some t) (hx : Ext [] w w') : FuncPost w f (.returned (resC (some t))) w' :=
  ⟨[], fun h2 => by (rw [h] at h2; cases h2), by rw [funcC_front h], hx⟩

set_option maxRecDepth 20000 in
theorem door_panic {W : World} {p0 p1 p2 : Nat} {x0 x1 x2 : Value} (h0 : Blk W p0 29 #[x0]) (h1 : Blk W p1 3 #[x1]) (h2 : Blk W p2 3 #[x2]) (h01 : p0 ≠ p1) (h02 : p0 ≠ p2) (h12 : p1 ≠ p2) (t : Tro) {R : Ending → World → Prop}
    (hR : ∀ W', Ext [p0, p1, p2] W W' → R (.returned (resC (some t))) W') (a0 a1 : Value) (rest : List Value) :
    bodyPostD Try.prog Try.f30 R (.panic [{ v := .iface 96 (.agg #[.int .i64 t.1, .int .i64 t.2.1, .int .i64 t.2.2]), recovered := false }])
      { tmps := (a0 :: a1 :: .pointer (some ⟨p0, 0, none⟩) :: .pointer (some ⟨p1, 0, none⟩) :: .pointer (some ⟨p2, 0, none⟩) :: rest).toArray,
        defers := [{ target := Target.fn (Fn.func 47) #[.pointer (some ⟨p0, 0, none⟩), .pointer (some ⟨p1, 0, none⟩), .pointer (some ⟨p2, 0, none⟩)], args := #[] }] } W := by
  refine leaves_cons (f := 47) (args := #[.pointer (some ⟨p0, 0, none⟩), .pointer (some ⟨p1, 0, none⟩), .pointer (some ⟨p2, 0, none⟩)]) (by simp) (by simp [go_sem]) ?_
  refine (catch_calls h0 h1 h2 h01 h02 h12 t []).mono ?_
  rintro e u' w'' ⟨rfl, rfl, g0, g1, g2, hx⟩
  have c0 := g0.cell (i := 0) rfl
  have c1 := g1.cell (i := 0) rfl
  have c2 := g2.cell (i := 0) rfl
  have := hR w'' hx
  simp [Leaves, settle, results, Try.results30, go_sem, c0, c1, c2]
  exact this
set_option maxRecDepth 20000 in
theorem door_ret {W : World} {p0 p1 p2 : Nat} {x0 x1 x2 : Value} (h0 : Blk W p0 29 #[x0]) (h1 : Blk W p1 3 #[x1]) (h2 : Blk W p2 3 #[x2]) {R : Ending → World → Prop}
    (hR : R (.returned (.tuple #[x0, x1, x2])) W) (a0 a1 : Value) (rest : List Value) :
    bodyPostD Try.prog Try.f30 R .ret
      { tmps := (a0 :: a1 :: .pointer (some ⟨p0, 0, none⟩) :: .pointer (some ⟨p1, 0, none⟩) :: .pointer (some ⟨p2, 0, none⟩) :: rest).toArray,
        defers := [{ target := Target.fn (Fn.func 47) #[.pointer (some ⟨p0, 0, none⟩), .pointer (some ⟨p1, 0, none⟩), .pointer (some ⟨p2, 0, none⟩)], args := #[] }] } W := by
  refine leaves_cons (f := 47) (args := #[.pointer (some ⟨p0, 0, none⟩), .pointer (some ⟨p1, 0, none⟩), .pointer (some ⟨p2, 0, none⟩)]) (by simp) (by simp [go_sem]) ?_
  refine (idle_calls W p0 p1 p2).mono ?_
  rintro e u' w'' ⟨rfl, rfl, rfl⟩
  have c0 := h0.cell (i := 0) rfl
  have c1 := h1.cell (i := 0) rfl
  have c2 := h2.cell (i := 0) rfl
  simp [Leaves, settle, results, Try.results30, go_sem, c0, c1, c2]
  exact hR

theorem thingsN_take {bs : List JBlock} {i : Nat} (hi : i < bs.length) : thingsN (bs.take (i + 1)) = thingsN (bs.take i) + (bs[i].phis.length + bs[i].ins.length) := by
  unfold thingsN
  rw [List.take_succ_eq_append_getElem hi, List.map_append, List.sum_append]; simp
theorem thingsN_take_le (bs : List JBlock) (i : Nat) : thingsN (bs.take i) ≤ thingsN bs := by
  have : thingsN bs = thingsN (bs.take i) + thingsN (bs.drop i) := by
    unfold thingsN
    rw [← List.sum_append, ← List.map_append, List.take_append_drop]
  omega
theorem thingsN_mem {bs : List JBlock} {x : JBlock} (hx : x ∈ bs) : x.phis.length + x.ins.length ≤ thingsN bs := by
  obtain ⟨i, hi, rfl⟩ := List.getElem_of_mem hx
  have := thingsN_take hi
  have := thingsN_take_le bs (i + 1)
  omega

set_option maxRecDepth 20000 in
set_option maxHeartbeats 8000000 in
theorem func_calls {w : World} {S : List Nat} {v : Value} {f : JFunc} (h : FnR w S v f) (hn : f.blocks.length ≤ 1073741824) (hs : thingsN f.blocks ≤ 1073741824) :
    Calls Try.prog 30 #[v] w (FuncPost w f) := by
  have hmf : ∀ (fn : Fn) (first cap : Array Value) (w : World), (Instr.makeFunc fn first cap).run Try.prog w = .ok (.func fn first cap) w := fun _ _ _ _ => rfl
  obtain ⟨vb, rfl, hb⟩ := h
  obtain ⟨A, c, rfl, hcap⟩ := hb.shape
  obtain ⟨params, bs⟩ := f
  simp only at *
  obtain ⟨W0, hW0⟩ : ∃ W0, W0 = (((w.alloc (.cells #[.int .i64 params, .slice A bs.length c] 26)).alloc (.cells #[.int .i64 0] 29)).alloc (.cells #[.int .i64 0] 3)).alloc (.cells #[.int .i64 0] 3) := ⟨_, rfl⟩
  have hx0 : Ext [] w W0 := by rw [hW0]; exact (((((Ext.refl [] w).alloc _).alloc _).alloc _).alloc _)
  have hB : Blk W0 w.heap.size 26 #[.int .i64 params, .slice A bs.length c] := by rw [hW0]; exact ((((Blk.new _ _ _).alloc _).alloc _).alloc _)
  have hP0 : Blk W0 (w.heap.size + 1) 29 #[.int .i64 0] := by
    rw [hW0]; exact (Blk.alloc (Blk.alloc (by simpa using Blk.new (w.alloc (.cells #[.int .i64 params, .slice A bs.length c] 26)) #[.int .i64 0] 29) _) _)
  have hP1 : Blk W0 (w.heap.size + 1 + 1) 3 #[.int .i64 0] := by
    rw [hW0]; exact (Blk.alloc (by simpa using Blk.new ((w.alloc (.cells #[.int .i64 params, .slice A bs.length c] 26)).alloc (.cells #[.int .i64 0] 29)) #[.int .i64 0] 3) _)
  have hP2 : Blk W0 (w.heap.size + 1 + 1 + 1) 3 #[.int .i64 0] := by
    rw [hW0]; simpa using Blk.new (((w.alloc (.cells #[.int .i64 params, .slice A bs.length c] 26)).alloc (.cells #[.int .i64 0] 29)).alloc (.cells #[.int .i64 0] 3)) #[.int .i64 0] 3
  have c0 := hB.cell (i := 0) rfl
  have c1 := hB.cell (i := 1) rfl
  have hsz : W0.heap.size = w.heap.size + 1 + 1 + 1 + 1 := by rw [hW0]; simp
  have Hsz := Lib.hid hsz
  clear hsz
  have hM : ∀ {W W'}, Ext [] w W → Ext [w.heap.size + 1, w.heap.size + 1 + 1, w.heap.size + 1 + 1 + 1] W W' → Ext [] w W' := fun h1 h2 => h1.trans h2 (fun x hx => .inr (by simp at hx; omega))
  have HM : Hid (∀ W W', Ext [] w W → Ext [w.heap.size + 1, w.heap.size + 1 + 1, w.heap.size + 1 + 1 + 1] W W' → Ext [] w W') := fun W W' h1 h2 => hM h1 h2
  clear hM
  have H0 : Hid (∀ t, runC (frontC ⟨params, bs⟩) = some t → ∀ W', Ext [] w W' → FuncPost w ⟨params, bs⟩ (.returned (resC (some t))) W') := fun t h W' hx => FuncPost.front h hx
  have HR1 : Hid (runC (frontC ⟨params, bs⟩) = runC (headC ⟨params, bs⟩ ++ shapeC params bs)) := rfl
  go_enter_defers Try.func30, Try.ntmps30
  go_wp2_with fail
  rw [← hW0]
  clear hW0
  refine (within_calls W0 params 0 4).mono ?_
  rintro e w2 ⟨rfl, rfl⟩
  rw [headC] at HR1
  simp only at HR1
  cases hd : decide (0 ≤ params ∧ params ≤ 4) with
  | false =>
    rw [hd, List.cons_append, runC_false] at HR1
    clear hd
    go_wp2_with fail
    refine (must_calls _ false (1, 0, 0)).mono ?_
    rintro e w3 ⟨rfl, rfl⟩
    simp only [runC, endC]
    go_wp2
    exact door_panic hP0 hP1 hP2 (by omega) (by omega) (by omega) (1, 0, 0) (fun W' hx => H0.out _ HR1.out W' (HM.out _ _ hx0 hx)) _ _ _
  | true =>
    rw [hd, List.cons_append, runC_true] at HR1
    clear hd
    go_wp2_with fail
    refine (must_calls _ true (1, 0, 0)).mono ?_
    rintro e w3 ⟨rfl, rfl⟩
    simp only [runC, endC]
    go_wp2_with fail
    refine (must_calls _ (decide (0 < bs.length)) (14, 0, 0)).mono ?_
    rintro e w4 ⟨rfl, rfl⟩
    cases hd : decide (0 < bs.length) with
    | false =>
      rw [hd, List.cons_append, runC_false] at HR1
      clear hd
      simp only [runC, endC]
      go_wp2
      exact door_panic hP0 hP1 hP2 (by omega) (by omega) (by omega) (14, 0, 0) (fun W' hx => H0.out _ HR1.out W' (HM.out _ _ hx0 hx)) _ _ _
    | true =>
      rw [hd, List.cons_append, runC_true] at HR1
      have h0 : 0 < bs.length := by simpa using hd
      clear hd
      simp only [runC, endC]
      go_wp2
      go_loopg [5, 25] bs.length (fun k vn vi wr => ∃ (i : Nat), vi = .int .i64 (i : Int) ∧ vn = .int .i64 ((bs.length + thingsN (bs.take i) : Nat) : Int) ∧ i ≤ bs.length ∧ Hid (i + k = bs.length) ∧ Ext [] w4 wr)
      case atStart => exact ⟨0, rfl, by simp [thingsN], by omega, by simp [Hid], Ext.refl _ _⟩
      case round =>
        obtain ⟨i, rfl, rfl, hi, HK, hx⟩ := hrel
        by_cases hlt : i < bs.length
        · obtain ⟨gg, _, Ap, cp, Ai, ci, Aa, ca, At, ct, Sb, Sp, Si, Sa, St, hv, hg, hsub, hbc, b0, b1, b2, b3, b4, b5⟩ := FnR.block ((hb.ext0 hx0).ext0 hx) i hlt
          cases hv
          have ht1 := thingsN_take hlt
          have ht2 := thingsN_take_le bs (i + 1)
          generalize bs[i] = x at *
          obtain ⟨tn, htn⟩ : ∃ tn, thingsN (bs.take i) = tn := ⟨_, rfl⟩
          obtain ⟨tm, htm⟩ : ∃ tm, thingsN (bs.take (i + 1)) = tm := ⟨_, rfl⟩
          rw [htn] at ht1 ⊢
          rw [htm] at ht1 ht2
          have Htm := Lib.hid htm
          have Ht1 := Lib.hid ht1
          have hb1 : bs.length + tn + (x.phis.length + x.ins.length) ≤ 2147483648 := by omega
          clear htn htm ht1
          go_wp2
          go_roundg (gk - 1)
          case measure => have := HK.out; omega
          case rel => exact ⟨i + 1, by go_num, by rw [Htm.out, Ht1.out]; go_num, by omega, by have := HK.out; simp only [Hid]; omega, hx.alloc _⟩
        · have hie : i = bs.length := by omega
          subst hie
          rw [List.take_length]
          have hBr := hB.ext hx (by simp)
          have d0 := hBr.cell (i := 0) rfl
          have d1 := hBr.cell (i := 1) rfl
          have hxr : Ext [] w wr := hx0.nil hx
          obtain ⟨bb, hbb⟩ : ∃ bb, bb = (decide ((bs.length : Int) ≤ 512) && decide (((bs.length + thingsN bs : Nat) : Int) ≤ 4096)) := ⟨_, rfl⟩
          rw [← hbb] at HR1
          have hsp : (¬ bs.length ≤ 512 ∧ bb = false) ∨ (bs.length ≤ 512 ∧ ¬ bs.length + thingsN bs ≤ 4096 ∧ bb = false) ∨ (bs.length ≤ 512 ∧ bs.length + thingsN bs ≤ 4096 ∧ bb = true) := by
            rw [hbb]
            by_cases h1 : bs.length ≤ 512
            · by_cases h2 : bs.length + thingsN bs ≤ 4096
              · exact .inr (.inr ⟨h1, h2, by simp; omega⟩)
              · exact .inr (.inl ⟨h1, h2, by simp; omega⟩)
            · exact .inl ⟨h1, by simp; omega⟩
          clear hbb
          have q0 := hP0.ext hx (by simp)
          have q1 := hP1.ext hx (by simp)
          have q2 := hP2.ext hx (by simp)
          rcases hsp with ⟨h1, rfl⟩ | ⟨h1, h2, rfl⟩ | ⟨h1, h2, rfl⟩
          · rw [List.cons_append, runC_false] at HR1
            go_wp2_with fail
            refine (must_calls _ false (2, 0, 0)).mono ?_
            rintro e w5 ⟨rfl, rfl⟩
            simp only [runC, endC]
            go_wp2
            exact door_panic q0 q1 q2 (by omega) (by omega) (by omega) (2, 0, 0) (fun W' hx' => H0.out _ HR1.out W' (HM.out _ _ hxr hx')) _ _ _
          · rw [List.cons_append, runC_false] at HR1
            have hd2 : decide ((bs.length : Int) + (thingsN bs : Int) ≤ 4096) = false := by simp; omega
            go_wp2_with fail
            refine (must_calls _ false (2, 0, 0)).mono ?_
            rintro e w5 ⟨rfl, rfl⟩
            simp only [runC, endC]
            go_wp2
            exact door_panic q0 q1 q2 (by omega) (by omega) (by omega) (2, 0, 0) (fun W' hx' => H0.out _ HR1.out W' (HM.out _ _ hxr hx')) _ _ _
          · rw [List.cons_append, runC_true, List.nil_append] at HR1
            have hd2 : decide ((bs.length : Int) + (thingsN bs : Int) ≤ 4096) = true := by simp; omega
            go_wp2_with fail
            refine (must_calls _ true (2, 0, 0)).mono ?_
            rintro e w5 ⟨rfl, rfl⟩
            simp only [runC, endC]
            have hmm := @run_makeMap Try.prog
            obtain ⟨wm, hwm⟩ : ∃ wm, wm = (w5.alloc (.map #[] 0)).alloc (.cells #[.int .i64 params, .slice A bs.length c, .map (some w5.heap.size)] 102) := ⟨_, rfl⟩
            obtain ⟨m, hm⟩ : ∃ m, m = w5.heap.size := ⟨_, rfl⟩
            have hxm : Ext [] w5 wm := by rw [hwm]; exact ((Ext.refl _ _).alloc _).alloc _
            have hlk : Look wm (m + 1) m params (.slice A bs.length c) [] := by
              rw [hwm, hm]
              refine ⟨by simpa using Blk.new (w5.alloc (.map #[] 0)) _ _, (MapR.new w5).ext ((Ext.refl [] _).alloc _) (by simp), by omega⟩
            have hlt5 : ∀ k ∈ S, k < m := by rw [hm]; exact (hb.ext0 hxr).lt
            go_wp2_with fail
            rw [← hwm, ← hm]
            clear hwm
            have hxm' : Ext [] w wm := hxr.nil hxm
            have hp : ∀ x ∈ bs, x.phis.length ≤ 4096 ∧ x.ins.length ≤ 4096 := fun x hx => by have := thingsN_mem hx; omega
            have Hp := Lib.hid hp
            clear hp hlt5
            have hwm5 : w.heap.size ≤ m := by rw [hm]; exact hxr.size
            have q0' := q0.ext hxm (by simp)
            have q1' := q1.ext hxm (by simp)
            have q2' := q2.ext hxm (by simp)
            have hqm : w.heap.size + 1 + 1 + 1 < m := by rw [hm]; exact q2.lt
            clear hm
            refine (shape_calls hlk (hb.ext0 hxm') (fun hk => by have := hb.lt m hk; omega) h1 Hp.out).mono ?_
            rintro e w6 ⟨rfl, hx6, hlk6⟩
            have hx6' : Ext [] w w6 := hxm'.trans hx6 (fun x hx => .inr (by simp at hx; omega))
            have q06 := q0'.ext hx6 (by simp; omega)
            have q16 := q1'.ext hx6 (by simp; omega)
            have q26 := q2'.ext hx6 (by simp; omega)
            cases hsc : runC (shapeC params bs) with
            | some t =>
              have HR2 : Hid (runC (frontC ⟨params, bs⟩) = some t) := by rw [Hid, HR1.out, hsc]
              clear hsc
              simp only [endC]
              go_wp2
              exact door_panic q06 q16 q26 (by omega) (by omega) (by omega) t (fun W' hx' => H0.out _ HR2.out W' (HM.out _ _ hx6' hx')) _ _ _
            | none =>
              have hlk7 : Look w6 (m + 1) m params (.slice A bs.length c) (madeAll bs) := hlk6 hsc
              have hnd : ((madeAll bs).map (·.1)).Nodup := thgsC_nodup _ _ hsc (by simp)
              have hto : ∀ x ∈ bs, x.term.to.length ≤ 65 := fun x hx => by
                obtain ⟨i, hi, rfl⟩ := List.getElem_of_mem hx
                exact (termOk_to (shape_term hsc hi).1).1
              have hag : ∀ x ∈ bs, (∀ s ∈ x.ins, s.args.length ≤ 4096) ∧ x.term.args.length ≤ 4096 := fun x hx => by
                obtain ⟨i, hi, rfl⟩ := List.getElem_of_mem hx
                refine ⟨fun s hs => ?_, by have := (termOk_to (shape_term hsc hi).1).2; omega⟩
                obtain ⟨j, hj, rfl⟩ := List.getElem_of_mem hs
                have e : bs[i].ins.getD j default = bs[i].ins[j] := by simp [List.getD, hj]
                have hm : (decide ((opersF bs[i].ins[j].op).1 ≤ (bs[i].ins[j].args.length : Int) ∧ (bs[i].ins[j].args.length : Int) ≤ (opersF bs[i].ins[j].op).2), ((10 : Int), (i : Int), (j : Int))) ∈ (insT i bs[i] j).pre := by
                  simp only [insT, e]; exact .tail _ (.head _)
                have := thgsC_pre _ _ hsc (insT i bs[i] j) (mem_blocksT hi (mem_blockT_iff.2 (.inr (.inl ⟨j, hj, rfl⟩)))) _ hm
                simp only [decide_eq_true_eq] at this
                have h4 : (opersF bs[i].ins[j].op).2 ≤ 4 := by unfold opersF; repeat' split
                                                               all_goals simp
                omega
              have Hto := Lib.hid hto
              have Hag := Lib.hid hag
              have Hnd := Lib.hid hnd
              have HR2 : Hid (runC (frontC ⟨params, bs⟩) = none) := by rw [Hid, HR1.out, hsc]
              clear hsc hlk6 hto hag hnd
              simp only [endC]
              go_wp2_with fail
              refine (uses_calls hlk7 Hnd.out (hb.ext0 hx6') h0 h1 Hp.out Hto.out Hag.out).mono ?_
              rintro e w7 ⟨idom, hid, rfl, hx7⟩
              have hx7' : Ext [] w w7 := hx6'.nil hx7
              have Hidm := Lib.hid hid
              clear hid
              have q07 := q06.ext hx7 (by simp)
              have q17 := q16.ext hx7 (by simp)
              have q27 := q26.ext hx7 (by simp)
              have HF : Hid (runC (funcC ⟨params, bs⟩ idom) = runC (usesC params (madeAll bs) (domF idom) bs)) := by rw [Hid, funcC, runC_append, HR2.out]
              cases hus : runC (usesC params (madeAll bs) (domF idom) bs) with
              | some t =>
                rw [hus] at HF
                clear hus
                simp only [endC]
                go_wp2
                exact door_panic q07 q17 q27 (by omega) (by omega) (by omega) t (fun W' hx' => ⟨idom, fun _ => Hidm.out, by rw [HF.out], HM.out _ _ hx7' hx'⟩) _ _ _
              | none =>
                rw [hus] at HF
                clear hus
                have z0 := q07.set 0 (.int .i64 0)
                have f0 := q07.frozen 0
                have f1 := q17.frozen 0
                have f2 := q27.frozen 0
                have k0 := q07.cell (i := 0) rfl
                have k1 := q17.cell (i := 0) rfl
                have k2 := q27.cell (i := 0) rfl
                simp only [endC]
                go_wp2
                refine door_ret (x0 := .int .i64 0) (x1 := .int .i64 0) (x2 := .int .i64 0) ?_ ?_ ?_ ⟨idom, fun _ => Hidm.out, by rw [HF.out]; rfl, ?_⟩ _ _ _
                · exact ((q07.set 0 (.int .i64 0)).far (p := ⟨_, 0, none⟩) (by simp; try omega) _).far (p := ⟨_, 0, none⟩) (by simp; try omega) _
                · exact ((q17.far (p := ⟨_, 0, none⟩) (by simp; try omega) _).set 0 (.int .i64 0)).far (p := ⟨_, 0, none⟩) (by simp; try omega) _
                · exact ((q27.far (p := ⟨_, 0, none⟩) (by simp; try omega) _).far (p := ⟨_, 0, none⟩) (by simp; try omega) _).set 0 (.int .i64 0)
                · exact ((hx7'.setCell (.inr (by simp; try omega)) _).setCell (.inr (by simp; try omega)) _).setCell (.inr (by simp; try omega)) _
end Go.Proofs.Ytkmgbejhbkbaoaa
