/- The program's check: one value taken. -/
import Derived.Test.YtkmgbejhbkbaoaaC5
namespace Go.Proofs.Ytkmgbejhbkbaoaa
set_option linter.unusedSimpArgs false
set_option linter.unusedVariables false
open Go.RowKit

theorem onceC_nodup {mk : Mk} {b p : Int} : ∀ (l : List Int) (mk : Mk), runC (onceC mk l b p) = none → (mk.map (·.1)).Nodup → ((mkAll mk l b p).map (·.1)).Nodup
  | [], mk, _, h => by simpa [mkAll] using h
  | n :: l, mk, hr, h => by
    simp only [onceC] at hr
    cases ha : (mk.any fun x => x.1 == n) with
    | true => rw [ha] at hr; simp [runC] at hr
    | false =>
      rw [ha] at hr
      simp only [Bool.not_false, runC] at hr
      have h1 : ((mk ++ [(n, (b, p))]).map (·.1)).Nodup := by
        rw [List.map_append, List.nodup_append]
        refine ⟨h, by simp, ?_⟩
        rintro a ha' c hc rfl
        simp at hc
        subst hc
        obtain ⟨x, hx, hxa⟩ := List.mem_map.1 ha'
        have := List.any_eq_false.1 ha x hx
        simp [hxa] at this
      have := onceC_nodup (mk := mk) l _ hr h1
      simpa [mkAll] using this
theorem thgsC_nodup {params : Int} : ∀ (ts : List Thg) (mk : Mk), runC (thgsC params mk ts) = none → (mk.map (·.1)).Nodup → ((mkAfter mk ts).map (·.1)).Nodup
  | [], mk, _, h => h
  | t :: ts, mk, hr, h => by
    rw [thgsC_cons, runC_append] at hr
    cases h1 : runC t.pre with
    | some x => rw [h1] at hr; cases hr
    | none =>
      rw [h1] at hr
      simp only [] at hr
      rw [runC_append] at hr
      cases h2 : runC (allC params mk t.mks t.b t.p) with
      | some x => rw [h2] at hr; cases hr
      | none =>
        rw [h2] at hr
        simp only [] at hr
        have h3 : runC (onceC mk t.mks t.b t.p) = none := by
          rw [allC, runC_append] at h2
          cases h4 : runC (makeC params t.mks t.b t.p) with
          | some x => rw [h4] at h2; cases h2
          | none => rw [h4] at h2; exact h2
        exact thgsC_nodup ts _ hr (onceC_nodup (mk := mk) t.mks mk h3 h)

/-- it stands where it is taken -/
def okAt (dom : Int → Int → Bool) (x : Int × Int) (block at_ : Int) : Bool := (x.1 == block && (decide (x.2 < at_) || decide (x.2 < 0))) || (x.1 != block && dom x.1 block)
def useB (params : Int) (mk : Mk) (dom : Int → Int → Bool) (v block at_ : Int) : Bool := decide (0 ≤ v ∧ v < params) || mk.any fun x => x.1 == v && okAt dom x.2 block at_
theorem useB_in {params : Int} {mk : Mk} {dom : Int → Int → Bool} {v block at_ : Int} (h : 0 ≤ v ∧ v < params) : useB params mk dom v block at_ = true := by simp [useB, h]
theorem useB_none {params : Int} {mk : Mk} {dom : Int → Int → Bool} {v block at_ : Int} (h : ¬ (0 ≤ v ∧ v < params)) (hn : (mk.any fun x => x.1 == v) = false) : useB params mk dom v block at_ = false := by
  rw [useB, decide_eq_false h, Bool.false_or]
  refine List.any_eq_false.2 fun x hx => ?_
  have := List.any_eq_false.1 hn x hx
  simp at this ⊢
  intro e; exact absurd e this
theorem useB_some {params : Int} {mk : Mk} {dom : Int → Int → Bool} {v block at_ : Int} (h : ¬ (0 ≤ v ∧ v < params)) (hnd : (mk.map (·.1)).Nodup) {x : Int × Int} (hx : (v, x) ∈ mk) : useB params mk dom v block at_ = okAt dom x block at_ := by
  rw [useB, decide_eq_false h, Bool.false_or]
  cases ho : okAt dom x block at_ with
  | true => exact List.any_eq_true.2 ⟨(v, x), hx, by simp [ho]⟩
  | false =>
    refine List.any_eq_false.2 fun y hy => ?_
    by_cases e : y.1 = v
    · obtain ⟨i, hi, hyi⟩ := List.mem_iff_getElem.1 hy
      obtain ⟨j, hj, hxj⟩ := List.mem_iff_getElem.1 hx
      have hij : i = j := by
        have a1 := List.Nodup.idxOf_getElem hnd i (by simpa using hi)
        have a2 := List.Nodup.idxOf_getElem hnd j (by simpa using hj)
        simp only [List.getElem_map, hyi, hxj, e] at a1 a2
        exact a1.symm.trans a2
      subst hij
      rw [hyi] at hxj
      subst hxj
      simp [ho]
    · simp [e]

/-- what the closure has captured -/
structure UseW (w : World) (q m p5 p6 : Nat) (params : Int) (vb : Value) (mk : Mk) (Sd : List Nat) (vd : Value) (idom : List Int) : Prop where
  look : Look w q m params vb mk
  b5 : Blk w p5 99 #[.pointer (some ⟨q, 0, none⟩)]
  b6 : Blk w p6 22 #[vd]
  d : SlR kInt 3 w Sd vd idom
theorem UseW.ext0 {w w' : World} {q m p5 p6 : Nat} {params : Int} {vb : Value} {mk : Mk} {Sd : List Nat} {vd : Value} {idom : List Int} (h : UseW w q m p5 p6 params vb mk Sd vd idom) (hx : Ext [] w w') : UseW w' q m p5 p6 params vb mk Sd vd idom :=
  ⟨h.look.ext0 hx, h.b5.ext hx (by simp), h.b6.ext hx (by simp), h.d.ext0 hx⟩

set_option maxRecDepth 20000 in
set_option maxHeartbeats 800000 in
theorem use_calls {w : World} {q m p5 p6 : Nat} {params : Int} {vb : Value} {mk : Mk} {Sd : List Nat} {vd : Value} {idom : List Int} (h : UseW w q m p5 p6 params vb mk Sd vd idom) (hnd : (mk.map (·.1)).Nodup) (hdl : idom.length ≤ 1073741824) (v block place at_ told : Int) :
    Calls Try.prog 74 #[.int .i64 v, .int .i64 block, .int .i64 place, .int .i64 at_, .int .i64 told, .pointer (some ⟨p5, 0, none⟩), .pointer (some ⟨p6, 0, none⟩)] w fun e w' =>
      e = endC (runC [(useB params mk (domF idom) v block at_, (13, told, place))]) ∧ Ext [] w w' := by
  obtain ⟨Ad, cd, rfl, _⟩ := h.d.shape
  have c5 := h.b5.cell (i := 0) rfl
  have c6 := h.b6.cell (i := 0) rfl
  have l6 := h.b6.lt
  have c0 := h.look.cl.cell (i := 0) rfl
  have c2 := h.look.cl.cell (i := 2) rfl
  by_cases hin : 0 ≤ v ∧ v < params
  · have hr : Hid (runC [(useB params mk (domF idom) v block at_, ((13 : Int), told, place))] = none) := by rw [Hid, useB_in hin]; rfl
    obtain ⟨h1, h2⟩ := hin
    go_enter Try.func74, Try.ntmps74
    go_wp2_with fail
    (try simp only [Exit.inBlock, Exit.then])
    refine bodyPost_ret (results_none rfl _ _ _) rfl ?_
    exact ⟨by rw [hr.out]; rfl, Ext.refl _ _⟩
  · rcases h.look.mp.look klInt Try.underlying100 (zero_where w) ⟨v, rfl⟩ with ⟨hrun, hno⟩ | ⟨z, hz, hrun⟩
    · have hr : Hid (runC [(useB params mk (domF idom) v block at_, ((13 : Int), told, place))] = some (13, told, place)) := by rw [Hid, useB_none hin (mk_not hno)]; rfl
      by_cases h1 : 0 ≤ v
      · have h2 : ¬ v < params := fun h => hin ⟨h1, h⟩
        clear hin
        go_enter Try.func74, Try.ntmps74
        go_wp2_with fail
        refine (must_calls _ false (13, told, place)).mono ?_
        rintro e w2 ⟨rfl, rfl⟩
        simp only [runC, endC]
        go_wp2
        exact ⟨rfl, by rw [hr.out]; rfl, (Ext.refl _ _).alloc _⟩
      · clear hin
        go_enter Try.func74, Try.ntmps74
        go_wp2_with fail
        refine (must_calls _ false (13, told, place)).mono ?_
        rintro e w2 ⟨rfl, rfl⟩
        simp only [runC, endC]
        go_wp2
        exact ⟨rfl, by rw [hr.out]; rfl, (Ext.refl _ _).alloc _⟩
    · obtain ⟨⟨n', wb, wp⟩, hp, he⟩ := List.mem_map.1 hz
      cases he
      have hu : Hid (runC [(useB params mk (domF idom) n' block at_, ((13 : Int), told, place))] = runC [(okAt (domF idom) (wb, wp) block at_, (13, told, place))]) := by rw [Hid, useB_some hin hnd hp]
      have hsp : (0 ≤ n' ∧ ¬ n' < params) ∨ ¬ 0 ≤ n' := by
        by_cases h1 : 0 ≤ n'
        · exact .inl ⟨h1, fun h => hin ⟨h1, h⟩⟩
        · exact .inr h1
      clear hin
      by_cases hb : wb = block
      · subst hb
        have hb1 : (wb == wb) = true := by simp
        by_cases hpa : wp < at_
        · have hr : Hid (runC [(useB params mk (domF idom) n' wb at_, ((13 : Int), told, place))] = none) := by rw [Hid, hu.out]; simp [okAt, hpa, runC]
          clear hu
          rcases hsp with ⟨h1, h2⟩ | h1
          all_goals
            go_enter Try.func74, Try.ntmps74
            go_wp2_with fail
            refine (must_calls _ true (13, told, place)).mono ?_
            rintro e w2 ⟨rfl, rfl⟩
            simp only [runC, endC]
            go_wp2
            go_end0
            exact ⟨by rw [hr.out]; rfl, (Ext.refl _ _).alloc _⟩
        · by_cases hp0 : wp < 0
          · have hr : Hid (runC [(useB params mk (domF idom) n' wb at_, ((13 : Int), told, place))] = none) := by rw [Hid, hu.out]; simp [okAt, hp0, runC]
            clear hu
            rcases hsp with ⟨h1, h2⟩ | h1
            all_goals
              go_enter Try.func74, Try.ntmps74
              go_wp2_with fail
              refine (must_calls _ true (13, told, place)).mono ?_
              rintro e w2 ⟨rfl, rfl⟩
              simp only [runC, endC]
              go_wp2
              go_end0
              exact ⟨by rw [hr.out]; rfl, (Ext.refl _ _).alloc _⟩
          · have hr : Hid (runC [(useB params mk (domF idom) n' wb at_, ((13 : Int), told, place))] = some (13, told, place)) := by rw [Hid, hu.out]; simp [okAt, hp0, hpa, runC]
            have hbn : (wb != wb) = false := by simp
            clear hu
            rcases hsp with ⟨h1, h2⟩ | h1
            all_goals
              go_enter Try.func74, Try.ntmps74
              go_wp2_with fail
              refine (must_calls _ false (13, told, place)).mono ?_
              rintro e w2 ⟨rfl, rfl⟩
              simp only [runC, endC]
              go_wp2
              exact ⟨rfl, by rw [hr.out]; rfl, (Ext.refl _ _).alloc _⟩
      · have hb1 : (wb == block) = false := beq_eq_false_iff_ne.2 hb
        have hb2 : (wb != block) = true := by simp [hb]
        have hr : Hid (runC [(useB params mk (domF idom) n' block at_, ((13 : Int), told, place))] = runC [(domF idom wb block, (13, told, place))]) := by rw [Hid, hu.out]; simp only [okAt, hb1, hb2, Bool.false_and, Bool.false_or, Bool.true_and]
        clear hu
        rcases hsp with ⟨h1, h2⟩ | h1
        all_goals
          go_enter Try.func74, Try.ntmps74
          go_wp2_with fail
          refine (dominates_calls (h.d.ext0 ((Ext.refl _ _).alloc _)) hdl wb block).mono ?_
          rintro e w2 ⟨rfl, hx2⟩
          have hx2' : Ext [] w w2 := ((Ext.refl [] w).alloc _).nil hx2
          cases hd : domF idom wb block with
          | true =>
            rw [hd] at hr
            clear hd
            go_wp2_with fail
            refine (must_calls _ true (13, told, place)).mono ?_
            rintro e w3 ⟨rfl, rfl⟩
            simp only [runC, endC]
            go_wp2
            go_end0
            exact ⟨by rw [hr.out]; rfl, hx2'⟩
          | false =>
            rw [hd] at hr
            clear hd
            go_wp2_with fail
            refine (must_calls _ false (13, told, place)).mono ?_
            rintro e w3 ⟨rfl, rfl⟩
            simp only [runC, endC]
            go_wp2
            exact ⟨rfl, by rw [hr.out]; rfl, hx2'⟩
end Go.Proofs.Ytkmgbejhbkbaoaa
