/- The program's check: what is made. -/
import Derived.Test.YtkmgbejhbkbaoaaC1
namespace Go.Proofs.Ytkmgbejhbkbaoaa
set_option linter.unusedSimpArgs false
set_option linter.unusedVariables false
open Go.RowKit

theorem klInt : KL Try.prog 3 (fun v => ∃ a, v = .int .i64 a) := KL.int Try.underlying3
/-- what is made: number, and where -/
abbrev Mk := List (Int × (Int × Int))
def mkEnt (p : Int × (Int × Int)) : Value × Value := (.int .i64 p.1, .agg #[.int .i64 p.2.1, .int .i64 p.2.2])
def mkAll (mk : Mk) (l : List Int) (b p : Int) : Mk := mk ++ l.map fun n => (n, (b, p))
def onceC (mk : Mk) (l : List Int) (b p : Int) : List Ck :=
  match l with
  | [] => []
  | n :: l => (!(mk.any fun x => x.1 == n), (12, b, p)) :: onceC (mk ++ [(n, (b, p))]) l b p
def makeC (params : Int) (l : List Int) (b p : Int) : List Ck := l.map fun n => (decide (params ≤ n ∧ n ≤ 8191), (11, b, p))
def allC (params : Int) (mk : Mk) (l : List Int) (b p : Int) : List Ck := makeC params l b p ++ onceC mk l b p

/-- the looker: it lies in block q; its map is block m -/
structure Look (w : World) (q m : Nat) (params : Int) (vb : Value) (mk : Mk) : Prop where
  cl : Blk w q 102 #[.int .i64 params, vb, .map (some m)]
  mp : MapR (fun v => ∃ a, v = .int .i64 a) w m (mk.map mkEnt)
  ne : m ≠ q
theorem Look.ext {w w' : World} {q m : Nat} {params : Int} {vb : Value} {mk : Mk} (h : Look w q m params vb mk) {M : List Nat} (hx : Ext M w w') (hq : q ∉ M) (hm : m ∉ M) : Look w' q m params vb mk :=
  ⟨h.cl.ext hx hq, h.mp.ext hx hm, h.ne⟩
theorem Look.ext0 {w w' : World} {q m : Nat} {params : Int} {vb : Value} {mk : Mk} (h : Look w q m params vb mk) (hx : Ext [] w w') : Look w' q m params vb mk := h.ext hx (by simp) (by simp)

set_option maxRecDepth 20000 in
theorem make_calls {w : World} {q m : Nat} {params : Int} {vb : Value} {mk : Mk} (h : Look w q m params vb mk) (n b p : Int) :
    Calls Try.prog 87 #[.pointer (some ⟨q, 0, none⟩), .int .i64 n, .int .i64 b, .int .i64 p] w fun e w' => e = endC (runC (makeC params [n] b p)) ∧ w' = w := by
  have c0 := h.cl.cell (i := 0) rfl
  have hr : Hid (runC (makeC params [n] b p) = runC [(decide (params ≤ n ∧ n ≤ 8191), (11, b, p))]) := rfl
  go_enter Try.func87, Try.ntmps87
  go_wp2_with fail
  refine (within_calls w n params 8191).mono ?_
  rintro e w1 ⟨rfl, rfl⟩
  cases hd : decide (params ≤ n ∧ n ≤ 8191) with
  | true =>
    rw [hd] at hr
    clear hd
    go_wp2_with fail
    refine (must_calls _ true (11, b, p)).mono ?_
    rintro e w2 ⟨rfl, rfl⟩
    simp only [runC, endC]
    go_wp2
    go_end0
    exact ⟨by rw [hr.out]; rfl, rfl⟩
  | false =>
    rw [hd] at hr
    clear hd
    go_wp2_with fail
    refine (must_calls _ false (11, b, p)).mono ?_
    rintro e w2 ⟨rfl, rfl⟩
    simp only [runC, endC]
    go_wp2
    exact ⟨rfl, by rw [hr.out]; rfl, rfl⟩

theorem mk_find {mk : Mk} {n : Int} {v : Value} (h : (Value.int .i64 n, v) ∈ mk.map mkEnt) : (mk.any fun x => x.1 == n) = true := by
  obtain ⟨p, hp, he⟩ := List.mem_map.1 h
  simp only [mkEnt, Prod.mk.injEq, Value.int.injEq, true_and] at he
  exact List.any_eq_true.2 ⟨p, hp, by simp [he.1]⟩
theorem mk_not {mk : Mk} {n : Int} (h : ∀ p ∈ mk.map mkEnt, p.1 ≠ .int .i64 n) : (mk.any fun x => x.1 == n) = false := by
  refine List.any_eq_false.2 fun p hp => ?_
  have := h (mkEnt p) (List.mem_map.2 ⟨p, hp, rfl⟩)
  simp only [mkEnt, ne_eq, Value.int.injEq, true_and] at this
  simpa using this
theorem zero_where (w : World) : (zeroValue 129).run Try.prog w = .ok (.agg #[.int .i64 0, .int .i64 0]) w := by kernel_rfl
set_option maxRecDepth 20000 in
theorem once_calls {w : World} {q m : Nat} {params : Int} {vb : Value} {mk : Mk} (h : Look w q m params vb mk) (n b p : Int) :
    Calls Try.prog 88 #[.pointer (some ⟨q, 0, none⟩), .int .i64 n, .int .i64 b, .int .i64 p] w fun e w' =>
      e = endC (runC (onceC mk [n] b p)) ∧ Ext [m] w w' ∧ (runC (onceC mk [n] b p) = none → Look w' q m params vb (mkAll mk [n] b p)) := by
  have c0 := h.cl.cell (i := 2) rfl
  rcases h.mp.look klInt Try.underlying100 (zero_where w) ⟨n, rfl⟩ with ⟨hrun, hno⟩ | ⟨v, hv, hrun⟩
  · have hr : Hid (runC (onceC mk [n] b p) = none) := by simp [Hid, onceC, mk_not hno, runC]
    go_enter Try.func88, Try.ntmps88
    go_wp2_with fail
    have hxa : Ext [] w (w.alloc (.cells #[.int .i64 0, .int .i64 0] 129)) := (Ext.refl _ _).alloc _
    refine (must_calls _ true (12, b, p)).mono ?_
    rintro e w2 ⟨rfl, rfl⟩
    simp only [runC, endC]
    have h2 := h.ext0 hxa
    have c1 := h2.cl.cell (i := 2) rfl
    obtain ⟨w3, hput, hm3, hx3⟩ := h2.mp.put klInt Try.underlying100 ⟨n, rfl⟩ hno (.agg #[.int .i64 b, .int .i64 p])
    go_wp2
    go_end0
    refine ⟨by rw [hr.out]; rfl, (hxa.mono (M' := [m]) (by simp)).same hx3, fun _ => ⟨h2.cl.ext hx3 (by simp; exact fun e => h.ne e.symm), ?_, h.ne⟩⟩
    simpa [mkAll, mkEnt] using hm3
  · obtain ⟨⟨n', wb, wp⟩, hp, he⟩ := List.mem_map.1 hv
    cases he
    have hr : Hid (runC (onceC mk [n'] b p) = some (12, b, p)) := by simp [Hid, onceC, mk_find hv, runC]
    go_enter Try.func88, Try.ntmps88
    go_wp2_with fail
    refine (must_calls _ false (12, b, p)).mono ?_
    rintro e w2 ⟨rfl, rfl⟩
    simp only [runC, endC]
    go_wp2
    exact ⟨rfl, by rw [hr.out]; rfl, (Ext.refl _ _).alloc _, fun h => by rw [hr.out] at h; cases h⟩

theorem onceC_cons (mk : Mk) (n : Int) (l : List Int) (b p : Int) : onceC mk (n :: l) b p = onceC mk [n] b p ++ onceC (mkAll mk [n] b p) l b p := by simp [onceC, mkAll]
theorem mkAll_append (mk : Mk) (l l' : List Int) (b p : Int) : mkAll mk (l ++ l') b p = mkAll (mkAll mk l b p) l' b p := by simp [mkAll]

set_option maxRecDepth 20000 in
set_option maxHeartbeats 400000 in
theorem all_calls {w : World} {q m : Nat} {params : Int} {vb : Value} {mk : Mk} (h : Look w q m params vb mk) {S : List Nat} {v : Value} {l : List Int} (hl : SlR kInt 3 w S v l) (hm : m ∉ S) (hn : l.length ≤ 1073741824) (b p : Int) :
    Calls Try.prog 69 #[.pointer (some ⟨q, 0, none⟩), v, .int .i64 b, .int .i64 p] w fun e w' =>
      e = endC (runC (allC params mk l b p)) ∧ Ext [m] w w' ∧ (runC (allC params mk l b p) = none → Look w' q m params vb (mkAll mk l b p)) := by
  obtain ⟨A, c, rfl, _⟩ := hl.shape
  have hr0 : Hid (runC (allC params mk l b p) = runC (makeC params (l.drop 0) b p ++ onceC mk l b p)) := rfl
  go_enter Try.func69, Try.ntmps69
  go_wp2
  go_loopg [14] l.length (fun k vi wr => ∃ (i : Nat), vi = .int .i64 (i : Int) ∧ i ≤ l.length ∧ Hid (i + k = l.length) ∧ w = wr ∧ Hid (runC (allC params mk l b p) = runC (makeC params (l.drop i) b p ++ onceC mk l b p)))
  case atStart => exact ⟨0, rfl, by omega, by simp [Hid], rfl, hr0⟩
  case round =>
    obtain ⟨i, rfl, hi, HK, rfl, hr⟩ := hrel
    clear hr0
    by_cases hlt : i < l.length
    · obtain ⟨g, cap, hv, hS, hc, _⟩ := hl.cell i hlt
      cases hv
      have hdr : makeC params (l.drop i) b p ++ onceC mk l b p = makeC params [l[i]] b p ++ (makeC params (l.drop (i + 1)) b p ++ onceC mk l b p) := by
        rw [List.drop_eq_getElem_cons hlt]; rfl
      rw [hdr, runC_append] at hr
      clear hdr
      generalize l[i] = n at *
      go_wp2_with fail
      refine (make_calls h n b p).mono ?_
      rintro e w2 ⟨rfl, rfl⟩
      cases hd : runC (makeC params [n] b p) with
      | none =>
        rw [hd] at hr
        simp only [endC] at hr ⊢
        go_wp2
        go_roundg (gk - 1)
        case measure => have := HK.out; omega
        case rel => exact ⟨i + 1, by go_num, by omega, by have := HK.out; simp only [Hid]; omega, rfl, hr⟩
      | some t =>
        rw [hd] at hr
        simp only [endC] at hr ⊢
        go_wp2
        exact ⟨rfl, by rw [hr.out]; rfl, Ext.refl _ _, fun h => by rw [hr.out] at h; cases h⟩
    · have hie : i = l.length := by omega
      subst hie
      have hr1 : Hid (runC (allC params mk l b p) = runC (onceC (mkAll mk (l.take 0) b p) (l.drop 0) b p)) := by
        have := hr.out
        rw [List.drop_length] at this
        rw [Hid]; simpa [makeC, mkAll] using this
      have h1 : Look w q m params vb (mkAll mk (l.take 0) b p) := by simpa [mkAll] using h
      clear hr
      go_wp2
      go_loopg [26] l.length (fun k vi wr => ∃ (i : Nat), vi = .int .i64 (i : Int) ∧ i ≤ l.length ∧ Hid (i + k = l.length) ∧ Ext [m] w wr ∧ Look wr q m params vb (mkAll mk (l.take i) b p) ∧
        Hid (runC (allC params mk l b p) = runC (onceC (mkAll mk (l.take i) b p) (l.drop i) b p)))
      case atStart => exact ⟨0, rfl, by omega, by simp [Hid], Ext.refl _ _, h1, hr1⟩
      case round =>
        obtain ⟨i, rfl, hi, HK, hx, hlk, hr⟩ := hrel
        clear hr1 h1
        by_cases hlt : i < l.length
        · obtain ⟨g, cap, hv, hS, hc, _⟩ := (hl.ext hx (fun k hk hkm => by simp at hkm; exact hm (hkm ▸ hk))).cell i hlt
          cases hv
          rw [List.drop_eq_getElem_cons hlt, onceC_cons, runC_append] at hr
          have htk : Hid (mkAll (mkAll mk (l.take i) b p) [l[i]] b p = mkAll mk (l.take (i + 1)) b p) := by rw [Hid, List.take_succ_eq_append_getElem hlt, mkAll_append]
          generalize l[i] = n at *
          go_wp2_with fail
          refine (once_calls hlk n b p).mono ?_
          rintro e w2 ⟨rfl, hx2, hlk2⟩
          cases hd : runC (onceC (mkAll mk (l.take i) b p) [n] b p) with
          | none =>
            have hlk3 := hlk2 hd
            rw [hd] at hr
            simp only [endC] at hr ⊢
            rw [htk.out] at hr hlk3
            go_wp2
            go_roundg (gk - 1)
            case measure => have := HK.out; omega
            case rel => exact ⟨i + 1, by go_num, by omega, by have := HK.out; simp only [Hid]; omega, hx.same hx2, hlk3, hr⟩
          | some t =>
            rw [hd] at hr
            simp only [endC] at hr ⊢
            go_wp2
            exact ⟨rfl, by rw [hr.out]; rfl, hx.same hx2, fun h => by rw [hr.out] at h; cases h⟩
        · have hie : i = l.length := by omega
          subst hie
          rw [List.take_length] at hlk hr
          have hre : Hid (runC (allC params mk l b p) = none) := by
            have := hr.out; rw [List.drop_length] at this; rw [Hid]; simpa [onceC, runC] using this
          clear hr
          go_wp2
          go_end0
          exact ⟨by rw [hre.out]; rfl, hx, fun _ => hlk⟩
end Go.Proofs.Ytkmgbejhbkbaoaa
