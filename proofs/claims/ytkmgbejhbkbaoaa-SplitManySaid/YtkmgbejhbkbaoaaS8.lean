/- The program's split, whole. -/
import Derived.Test.YtkmgbejhbkbaoaaS6
import Derived.Test.YtkmgbejhbkbaoaaS7
import Derived.Test.YtkmgbejhbkbaoaaL8
namespace Go.Proofs.Ytkmgbejhbkbaoaa
set_option linter.unusedSimpArgs false
set_option linter.unusedVariables false
open Go.RowKit

def tooMany (f : JFunc) : Bool := decide (512 < f.blocks.length + (critF (ofF f.blocks)).length) || decide (4096 < f.blocks.length + thingsN f.blocks + (critF (ofF f.blocks)).length)
def splitR (f : JFunc) : Option Tro → JFunc × Int
  | some t => (⟨0, []⟩, t.1)
  | none => if tooMany f then (⟨0, []⟩, 2) else (splitF f, 0)
def SplitPost (w : World) (f : JFunc) (e : Ending) (w' : World) : Prop :=
  ∃ idom v' S', (runC (frontC f) = none → AllR (ofF f.blocks) → IdomOk (ofF f.blocks) idom) ∧ e = .returned (.tuple #[v', .int .i64 (splitR f (runC (funcC f idom))).2]) ∧ FnR w' S' v' (splitR f (runC (funcC f idom))).1 ∧ New w w' S'
theorem fnr_zero (w : World) : FnR w [] (.agg #[.int .i64 0, .slice none 0 0]) ⟨0, []⟩ := ⟨_, rfl, SlR.nil _ _ _⟩
/-- while the edges get their blocks -/
structure EInv (W4 : World) (b m : Nat) (params : Int) (bs : List JBlock) (cr : List (Nat × Nat)) (wr : World) (i : Nat) (So : List Nat) (vo : Value) : Prop where
  blk : Blk wr b 26 #[.int .i64 params, vo]
  map : MapR KpT wr m (entC bs.length (cr.take i))
  sl : SlR kBlock 43 wr So vo (bs ++ (cr.take i).map fun e => jumpB e.2)
  fresh : ∀ k ∈ So, W4.heap.size ≤ k ∧ k ≠ b ∧ k ≠ m
  nodup : So.Nodup
  ext : Ext [] W4 wr

set_option maxRecDepth 100000 in
set_option maxHeartbeats 4000000 in
theorem splitFunc_calls {w : World} {S : List Nat} {v : Value} {f : JFunc} (h : FnR w S v f) (hn : f.blocks.length ≤ 1073741824) (hs : thingsN f.blocks ≤ 1073741824) :
    Calls Try.prog 10 #[v] w (SplitPost w f) := by
  obtain ⟨vb, rfl, hb⟩ := h
  obtain ⟨A, c, rfl, hcap⟩ := hb.shape
  obtain ⟨params, bs⟩ := f
  simp only at *
  obtain ⟨W0, hW0⟩ : ∃ W0, W0 = (w.alloc (.cells #[.int .i64 params, .slice A bs.length c] 26)).alloc (.cells #[.int .i64 0, .slice none 0 0] 26) := ⟨_, rfl⟩
  have hx0 : Ext [] w W0 := by rw [hW0]; exact (((Ext.refl [] w).alloc _).alloc _)
  have hB : Blk W0 w.heap.size 26 #[.int .i64 params, .slice A bs.length c] := by rw [hW0]; exact (Blk.new _ _ _).alloc _
  have hP : Blk W0 (w.heap.size + 1) 26 #[.int .i64 0, .slice none 0 0] := by
    rw [hW0]; simpa using Blk.new (w.alloc (.cells #[.int .i64 params, .slice A bs.length c] 26)) #[.int .i64 0, .slice none 0 0] 26
  have c0 := hB.cell (i := 0) rfl
  have c1 := hB.cell (i := 1) rfl
  go_enter Try.func10, Try.ntmps10
  go_wp2_with fail
  rw [← hW0]
  clear hW0
  refine (func_calls (f := ⟨params, bs⟩) ⟨_, rfl, hb.ext0 hx0⟩ hn hs).mono ?_
  rintro e W1 ⟨idom, hid, rfl, hx1⟩
  have Hid0 := Lib.hid hid
  clear hid
  have hB1 := hB.ext hx1 (by simp)
  have hP1 := hP.ext hx1 (by simp)
  cases hr : runC (funcC ⟨params, bs⟩ idom) with
  | some t =>
    have ht := funcC_code hr
    have ht2 : (t.1 != 0) = true := by simpa using ht
    have HR := Lib.hid hr
    clear hr c0 c1
    have p0 := hP1.cell (i := 0) rfl
    have p1 := hP1.cell (i := 1) rfl
    have g0 := hP1.frozen 0
    have g1 := hP1.frozen 1
    simp only [resC]
    go_wp2
    refine bodyPost_ret (v := .tuple #[.agg #[.int .i64 0, .slice none 0 0], .int .i64 t.1]) (by simp [results, Try.results10, go_sem, p0, p1]) rfl ?_
    refine ⟨idom, _, [], Hid0.out, by rw [HR.out]; rfl, by rw [HR.out]; exact fnr_zero _, ⟨?_, by simp, by simp⟩⟩
    exact (((hx0.nil hx1).setCell (.inr (by simp)) _).setCell (.inr (by simp)) _)
  | none =>
    have hok := okC_of hr
    have HR := Lib.hid hr
    clear hr c0 c1
    have c0 := hB1.cell (i := 0) rfl
    have c1 := hB1.cell (i := 1) rfl
    simp only [resC]
    have hx1' := hx0.nil hx1
    go_wp2_with fail
    refine (of_calls (f := ⟨params, bs⟩) ⟨_, rfl, hb.ext0 hx1'⟩ hn (fun x hx => by have := hok.tolen x hx; omega)).mono ?_
    rintro e W2 ⟨v2, S2, rfl, hr2, hnew2⟩
    simp only at hr2
    have hgood := ofF_good bs
    have hgl : (ofF bs).length = bs.length := ofF_len bs
    have hmany := hok.many
    simp only at hmany
    have Hok := Lib.hid hok
    obtain ⟨g, hge⟩ : ∃ g, ofF bs = g := ⟨_, rfl⟩
    rw [hge] at hr2 hgood hgl
    have Hge := Lib.hid hge
    have hgl2 : g.length ≤ 32768 := by omega
    clear hge hok hgl
    obtain ⟨A2, c2, rfl, _⟩ := hr2.shape
    go_wp2_with fail
    refine (critical_calls hr2 hgood hgl2).mono ?_
    rintro e W3 ⟨v3, S3, rfl, hr3, hnew3⟩
    have hcnd := crit_nodup hgood
    have hclt : ∀ e ∈ critF g, e.1 < g.length ∧ e.2 < g.length := fun e he => Ed.lt hgood (mem_edgesF.1 ((List.mem_filter.1 he).1))
    obtain ⟨cr, hcr⟩ : ∃ cr, critF g = cr := ⟨_, rfl⟩
    rw [hcr] at hr3 hcnd hclt
    have Hcnd := Lib.hid hcnd
    have Hclt := Lib.hid hclt
    have hcl : cr.length ≤ 1073741824 := by
      rw [← hcr]
      refine Nat.le_trans (crit_le hgood) (Nat.le_trans (Nat.mul_le_mul hgl2 hgl2) (by decide))
    have Hcr := Lib.hid hcr
    clear hcr hcnd hclt hgood
    obtain ⟨A3, c3, rfl, _⟩ := hr3.shape
    have hx3 : Ext [] W1 W3 := hnew2.ext.nil hnew3.ext
    have hB3 := hB1.ext hx3 (by simp)
    have d1 := hB3.cell (i := 1) rfl
    have hx3' := hx1'.nil hx3
    go_wp2
    go_loopg [8, 44] bs.length (fun k vn vi wr => ∃ (i : Nat), vi = .int .i64 (i : Int) ∧ vn = .int .i64 ((cr.length + (i + thingsN (bs.take i)) : Nat) : Int) ∧ i ≤ bs.length ∧ Hid (i + k = bs.length) ∧ Ext [] W3 wr)
    case atStart => exact ⟨0, rfl, by simp [thingsN], by omega, by simp [Hid], Ext.refl _ _⟩
    case round =>
      obtain ⟨i, rfl, rfl, hi, HK, hx⟩ := hrel
      by_cases hlt : i < bs.length
      · obtain ⟨gg, _, Ap, cp, Ai, ci, Aa, ca, At, ct, Sb, Sp, Si, Sa, St, hv, hg, hsub, hbc, b0, b1, b2, b3, b4, b5⟩ := FnR.block ((hb.ext0 hx3').ext0 hx) i hlt
        cases hv
        have ht1 := thingsN_take hlt
        have ht2 := thingsN_take_le bs (i + 1)
        generalize bs[i] = x at *
        obtain ⟨tn, htn⟩ : ∃ tn, thingsN (bs.take i) = tn := ⟨_, rfl⟩
        obtain ⟨tm, htm⟩ : ∃ tm, thingsN (bs.take (i + 1)) = tm := ⟨_, rfl⟩
        rw [htn] at ht1 ⊢
        rw [htm] at ht1 ht2
        have Htm := Lib.hid htm
        have Ht1 := Lib.hid ht1
        have hb1 : cr.length + (i + tn) + (x.phis.length + x.ins.length + 1) ≤ 4294967296 := by omega
        clear htn htm ht1
        go_wp2
        go_roundg (gk - 1)
        case measure => have := HK.out; omega
        case rel => exact ⟨i + 1, by go_num, by rw [Htm.out, Ht1.out]; go_num, by omega, by have := HK.out; simp only [Hid]; omega, hx.alloc _⟩
      · have hie : i = bs.length := by omega
        subst hie
        rw [List.take_length]
        have hBr := hB3.ext hx (by simp)
        have d0 := hBr.cell (i := 0) rfl
        have d1 := hBr.cell (i := 1) rfl
        have hxr : Ext [] w wr := hx3'.nil hx
        have hPr := (hP1.ext hx3 (by simp)).ext hx (by simp)
        obtain ⟨tb, htb⟩ : ∃ tb, tooMany ⟨params, bs⟩ = tb := ⟨_, rfl⟩
        have hsp : (512 < bs.length + cr.length ∧ tb = true) ∨ (¬ 512 < bs.length + cr.length ∧ 4096 < cr.length + (bs.length + thingsN bs) ∧ tb = true) ∨ (¬ 512 < bs.length + cr.length ∧ ¬ 4096 < cr.length + (bs.length + thingsN bs) ∧ tb = false) := by
          rw [← htb]
          simp only [tooMany, Hge.out, Hcr.out]
          by_cases h1 : 512 < bs.length + cr.length
          · exact .inl ⟨h1, by simp [h1]⟩
          · by_cases h2 : 4096 < cr.length + (bs.length + thingsN bs)
            · exact .inr (.inl ⟨h1, h2, by simp; omega⟩)
            · exact .inr (.inr ⟨h1, h2, by simp; omega⟩)
        have Htb := Lib.hid htb
        clear htb
        have p0 := hPr.cell (i := 0) rfl
        have p1 := hPr.cell (i := 1) rfl
        have g0 := hPr.frozen 0
        have g1 := hPr.frozen 1
        have HE : Hid (tb = true → ∀ W', Ext [] w W' → SplitPost w ⟨params, bs⟩ (.returned (.tuple #[.agg #[.int .i64 0, .slice none 0 0], .int .i64 2])) W') := fun ht W' hx' => by
          have e : splitR ⟨params, bs⟩ (runC (funcC ⟨params, bs⟩ idom)) = (⟨0, []⟩, 2) := by rw [HR.out, splitR, Htb.out, ht]; rfl
          exact ⟨idom, _, [], Hid0.out, by rw [e], by rw [e]; exact fnr_zero _, ⟨hx', by simp, by simp⟩⟩
        rcases hsp with ⟨h1, rfl⟩ | ⟨h1, h2, rfl⟩ | ⟨h1, h2, rfl⟩
        · have hd1 : decide (512 < (bs.length : Int) + (cr.length : Int)) = true := by simp; omega
          go_wp2
          refine bodyPost_ret (v := .tuple #[.agg #[.int .i64 0, .slice none 0 0], .int .i64 2]) (by simp [results, Try.results10, go_sem, p0, p1]) rfl ?_
          exact HE.out (by trivial) _ ((hxr.setCell (.inr (by simp)) _).setCell (.inr (by simp)) _)
        · have hd1 : decide (512 < (bs.length : Int) + (cr.length : Int)) = false := by simp; omega
          have hd2 : decide (4096 < (cr.length : Int) + ((bs.length : Int) + (thingsN bs : Int))) = true := by simp; omega
          go_wp2
          refine bodyPost_ret (v := .tuple #[.agg #[.int .i64 0, .slice none 0 0], .int .i64 2]) (by simp [results, Try.results10, go_sem, p0, p1]) rfl ?_
          exact HE.out (by trivial) _ ((hxr.setCell (.inr (by simp)) _).setCell (.inr (by simp)) _)
        · have hd1 : decide (512 < (bs.length : Int) + (cr.length : Int)) = false := by simp; omega
          have hd2 : decide (4096 < (cr.length : Int) + ((bs.length : Int) + (thingsN bs : Int))) = false := by simp; omega
          obtain ⟨W4, hW4⟩ : ∃ W4, W4 = wr := ⟨_, rfl⟩
          subst hW4
          have hsm := okC_small Hok.out
          simp only at hsm
          have Hsm := Lib.hid hsm
          clear hsm p0 p1 g0 g1 HE
          go_wp2_with fail
          refine (own_calls (f := ⟨params, bs⟩) ⟨_, rfl, hb.ext0 hxr⟩ hn Hsm.out).mono ?_
          rintro e W5 ⟨v5, S5, rfl, ⟨vb5, rfl, h5⟩, hnew5⟩
          obtain ⟨A5, c5, rfl, _⟩ := h5.shape
          obtain ⟨b, hbq⟩ : ∃ b, b = W5.heap.size := ⟨_, rfl⟩
          have hb4 : W4.heap.size ≤ b := by rw [hbq]; exact hnew5.ext.size
          have Hb4 := Lib.hid hb4
          clear hb4
          obtain ⟨W6, hW6⟩ : ∃ W6, W6 = (W5.alloc (.cells #[.int .i64 params, .slice A5 bs.length c5] 26)).alloc (.map #[] 0) := ⟨_, rfl⟩
          have hx56 : Ext [] W5 W6 := by rw [hW6]; exact ((Ext.refl _ _).alloc _).alloc _
          have hI0 : EInv W4 b (b + 1) params bs cr W6 0 S5 (.slice A5 bs.length c5) := by
            refine ⟨?_, ?_, ?_, fun k hk => ?_, hnew5.nodup, hnew5.ext.nil hx56⟩
            · rw [hW6, hbq]; exact (Blk.new _ _ _).alloc _
            · rw [hW6, hbq]; simpa [entC] using MapR.new (Kp := KpT) (W5.alloc (.cells #[.int .i64 params, .slice A5 bs.length c5] 26))
            · simpa using h5.ext0 hx56
            · have h1 := h5.lt k hk
              have h2 := hnew5.fresh k hk
              rw [hbq]; omega
          have HI0 := Lib.hid hI0
          have hmm := @run_makeMap Try.prog
          clear hI0
          go_wp2
          rw [← hW6, ← hbq]
          clear hW6 hbq hmm
          go_loopg [76] cr.length (fun k vi wr => ∃ (i : Nat) (So : List Nat) (vo : Value), vi = .int .i64 (i : Int) ∧ i ≤ cr.length ∧ Hid (i + k = cr.length) ∧ Hid (EInv W4 b (b + 1) params bs cr wr i So vo))
          case atStart => exact ⟨0, _, _, rfl, by omega, by simp [Hid], HI0⟩
          case round =>
            obtain ⟨i, So, vo, rfl, hi, HK, HI⟩ := hrel
            clear HI0
            by_cases hlt : i < cr.length
            · obtain ⟨gc, Sj, cs, rfl, _, _, ⟨_, rfl⟩, hcj⟩ := (((hr3.ext0 hx).ext0 HI.out.ext).cells i hlt)
              have e0 := hcj 0 _ rfl
              have e1 := hcj 1 _ rfl
              simp only [kTwo, Nat.add_zero] at e0 e1
              have Hs := Lib.hid (entC_succ (n := bs.length) hlt)
              have Hs2 : Hid (cr.take (i + 1) = cr.take i ++ [cr[i]]) := by rw [Hid, List.take_succ_eq_append_getElem hlt]
              have hlt2 := Hclt.out cr[i] (List.getElem_mem hlt)
              have hno : ∀ p ∈ entC bs.length (cr.take i), p.1 ≠ keyV cr[i] := by
                rintro ⟨k, v⟩ hp he
                obtain ⟨j, hj, hk, _⟩ := mem_entC.1 hp
                rw [hk] at he
                have h2 := keyV_inj he
                have hj2 : j < i := by have := hj; rw [List.length_take] at this; omega
                rw [List.getElem_take] at h2
                have h3 := List.Nodup.idxOf_getElem Hcnd.out j (by omega)
                have h4 := List.Nodup.idxOf_getElem Hcnd.out i hlt
                rw [h2] at h3
                omega
              have Hno := Lib.hid hno
              clear hno hcj
              have hgl := hgl2
              generalize cr[i] = ed at *
              obtain ⟨ea, eb⟩ := ed
              obtain ⟨q, hq⟩ : ∃ q, q = bs.length + i := ⟨_, rfl⟩
              obtain ⟨Ao, co, hvo, _⟩ := HI.out.sl.shape
              have hvl : (bs ++ (cr.take i).map fun e => jumpB e.2).length = q := by rw [hq]; simp [List.length_take]; omega
              rw [hvl] at hvo
              subst hvo
              have HQ := Lib.hid hq
              have hq2 : q ≤ 1073741824 := by omega
              have Hvl := Lib.hid hvl
              have hB0 := HI.out.blk.cell (i := 0) rfl
              have hB1' := HI.out.blk.cell (i := 1) rfl
              clear hq hvl
              obtain ⟨W7, hW7⟩ : ∃ W7, W7 = wr.alloc (.cells #[.int .i64 (ea : Int), .int .i64 (eb : Int)] 77) := ⟨_, rfl⟩
              have hx7 : Ext [] wr W7 := by rw [hW7]; exact (Ext.refl _ _).alloc _
              have hbe : Blk W7 wr.heap.size 77 #[.int .i64 (ea : Int), .int .i64 (eb : Int)] := by rw [hW7]; exact Blk.new _ _ _
              obtain ⟨W8, hput, hm8, hx8⟩ := (HI.out.map.ext hx7 (by simp)).put klTwo Try.underlying76 ⟨ea, eb, rfl, by omega, by omega⟩ Hno.out (.int .i64 (q : Int))
              rw [hW7] at hput
              simp only at e0 e1
              have hbm : wr.heap.size ≠ b + 1 := by have := HI.out.map.lt; omega
              have hb8 := hbe.ext hx8 (by simpa using hbm)
              have f1 := hb8.cell (i := 1) rfl
              have hB8 := (HI.out.blk.ext hx7 (by simp)).ext hx8 (by simp)
              have h81 := hB8.cell (i := 1) rfl
              have h8f := hB8.frozen 1
              have hbl := HI.out.blk.lt
              clear hbe
              obtain ⟨W9, hW9⟩ : ∃ W9, W9 = (W8.alloc (.cells #[.int .i64 (eb : Int)] 3)).alloc (.cells #[.slice none 0 0, .slice none 0 0, .int .i64 1, .slice none 0 0, .slice (some ⟨W8.heap.size, 0, none⟩) 1 1, .int .i32 0] 43) := ⟨_, rfl⟩
              have hx9 : Ext [] W8 W9 := by rw [hW9]; exact ((Ext.refl _ _).alloc _).alloc _
              have hfrs := HI.out.fresh
              have hSo : ∀ k ∈ So, k ∉ [b + 1] := fun k hk => by have := (hfrs k hk).2.2; simpa using this
              have hbSo : b ∉ So := fun hk => (hfrs b hk).2.1 rfl
              have hsl9 := ((HI.out.sl.ext0 hx7).ext hx8 hSo).ext0 hx9
              have hB9 := hB8.ext hx9 (by simp)
              have hto : SlR kInt 3 W9 [W8.heap.size] (.slice (some ⟨W8.heap.size, 0, none⟩) 1 1) [(eb : Int)] := by
                rw [hW9]
                have := made_lit (w := W8) (x := [(eb : Int)]) (by simp) (by simp)
                exact SlR.ext0 (by simpa using this) ((Ext.refl _ _).alloc _)
              have hrep : kBlock.rep W9 [W8.heap.size] (jumpB eb) [.slice none 0 0, .slice none 0 0, .int .i64 1, .slice none 0 0, .slice (some ⟨W8.heap.size, 0, none⟩) 1 1, .int .i32 0] :=
                ⟨_, _, _, _, [], [], [], [W8.heap.size], rfl, ⟨SlR.nil _ _ _, SlR.nil _ _ _, SlR.nil _ _ _, hto, by simp⟩⟩
              have hone := Kd.one kBlock hrep
              have hdis : ∀ k ∈ [[W8.heap.size]].flatten, k ∉ So := fun k hk hk2 => by
                have h1 := HI.out.sl.lt k hk2
                have h2 := hx7.size
                have h3 := hx8.size
                simp at hk; omega
              have hfl : (bs ++ (cr.take i).map fun e => jumpB e.2).length ≤ 1073741824 := by rw [Hvl.out]; exact hq2
              have hsrc : Src ((W8.alloc (.cells #[.int .i64 (eb : Int)] 3)).alloc (.cells #[.slice none 0 0, .slice none 0 0, .int .i64 1, .slice none 0 0, .slice (some ⟨W8.heap.size, 0, none⟩) 1 1, .int .i32 0] 43)) (.slice (some ⟨W8.heap.size + 1, 0, none⟩) 1 1) 1 [.slice none 0 0, .slice none 0 0, .int .i64 1, .slice none 0 0, .slice (some ⟨W8.heap.size, 0, none⟩) 1 1, .int .i32 0] := by
                simpa using Src.blk (w := W8.alloc (.cells #[.int .i64 (eb : Int)] 3)) (cs := [.slice none 0 0, .slice none 0 0, .int .i64 1, .slice none 0 0, .slice (some ⟨W8.heap.size, 0, none⟩) 1 1, .int .i32 0]) (T := 43) 1
              have Hsrc := Lib.hid hsrc
              clear hsrc
              rw [hW9] at hsl9 hrep hB9
              have Hsl9 := Lib.hid hsl9
              have Hrep := Lib.hid hrep
              have HB9 := Lib.hid hB9
              have Hone := Lib.hid hone
              have Hdis := Lib.hid hdis
              have HbSo := Lib.hid hbSo
              have Hhx9 := Lib.hid hx9
              have HW9 := Lib.hid hW9
              have Hx8 := Lib.hid hx8
              have Hfrs := Lib.hid hfrs
              have HSo := Lib.hid hSo
              have Hfl := Lib.hid hfl
              clear hsl9 hrep hB9 hone hdis hbSo hx9 hW9 hfrs hSo hto hx8 hfl
              go_wp2_with (at_builtin; refine wpList_append_sl (d := kBlock) (ys := [jumpB eb]) rfl (.tmp 86) (.tmp 92) 24 rfl ei_block rfl Hsl9.out rfl [.slice none 0 0, .slice none 0 0, .int .i64 1, .slice none 0 0, .slice (some ⟨W8.heap.size, 0, none⟩) 1 1, .int .i32 0] [[W8.heap.size]] (elems_single Hrep.out) rfl Hone.out Hsrc.out Hdis.out (le_maxLen Hfl.out) (le_bytesB Hfl.out (by decide)) ?_; intro v' w' S' hs' hx' hf' hn'; have hB' := HB9.out.ext hx' HbSo.out; have u0 := hB'.cell (i := 1) rfl; have u1 := hB'.frozen 1; obtain ⟨A', c', rfl, _⟩ := hs'.shape)
              have hfrs := Hfrs.out
              have hS' : ∀ k ∈ S', W4.heap.size ≤ k ∧ k ≠ b ∧ k ≠ b + 1 := fun k hk => by
                have h1 := HI.out.ext.size
                have h2 := hx7.size
                have h3 := Hx8.out.size
                have h4 := HI.out.blk.lt
                have h5 := HI.out.map.lt
                rcases hf' k hk with h | h | h
                · exact hfrs k h
                · simp at h; omega
                · simp at h; omega
              have hbS : b ∉ S' := fun hk => (hS' b hk).2.1 rfl
              go_roundg (gk - 1)
              case measure => have := HK.out; omega
              case rel =>
                refine ⟨i + 1, S', .slice A' (bs.length + (i + 1)) c', by go_num, by omega, by have := HK.out; simp only [Hid]; omega, ?_⟩
                have hb4' := Hb4.out
                have hxW : Ext So W8 w' := (Hhx9.out.mono (M' := So) (by simp)).same (by rw [HW9.out]; exact hx')
                have hmn : MapR KpT w' (b + 1) (entC bs.length (cr.take (i + 1))) := by
                  rw [Hs.out]
                  have := hm8.ext hxW (fun hk => (hfrs _ hk).2.2 rfl)
                  rw [← HQ.out]; exact this
                have hlen : (bs ++ (cr.take i).map (fun e => jumpB e.2) ++ [jumpB eb]).length = bs.length + (i + 1) := by
                  have := Hvl.out; have := HQ.out; simp only [List.length_append] at *; simp; omega
                have hsn : SlR kBlock 43 w' S' (.slice A' (bs.length + (i + 1)) c') (bs ++ (cr.take (i + 1)).map fun e => jumpB e.2) := by
                  rw [hlen] at hs'
                  rw [Hs2.out, List.map_append, ← List.append_assoc]; exact hs'
                refine ⟨?_, hmn.move (Below.heap_setCell w' ⟨b, 1, none⟩ _ (b + 1) (by simp)), hsn.move (fun k hk => Below.heap_setCell w' ⟨b, 1, none⟩ _ k (fun e => hbS (by have e' : k = b := e; rw [← e']; exact hk))), hS', hn' HI.out.nodup (by simp), ?_⟩
                · simpa using hB'.set 1 (.slice A' (bs.length + (i + 1)) c')
                · have e1 : Ext [] W4 W8 := (HI.out.ext.nil hx7).trans Hx8.out (fun k hk => .inr (by simp at hk; omega))
                  have e2 : Ext [] W4 w' := e1.trans hxW (fun k hk => .inr (hfrs k hk).1)
                  exact e2.setCell (.inr hb4') _
            · have hie : i = cr.length := by omega
              subst hie
              obtain ⟨W10, hW10⟩ : ∃ W10, W10 = wr := ⟨_, rfl⟩
              subst hW10
              have hI := HI.out
              obtain ⟨Iblk, Imap, Isl, Ifr, Ind, Iext⟩ := hI
              rw [List.take_length] at Imap Isl
              obtain ⟨Ao, co, rfl, _⟩ := Isl.shape
              obtain ⟨qn, hqn⟩ : ∃ qn, qn = bs.length + cr.length := ⟨_, rfl⟩
              have hL0 : (bs ++ cr.map fun e => jumpB e.2).length = qn := by rw [hqn]; simp
              obtain ⟨L0, hL⟩ : ∃ L0, L0 = bs ++ cr.map fun e => jumpB e.2 := ⟨_, rfl⟩
              rw [← hL] at Isl hL0 Iblk
              rw [hL0] at Isl Iblk
              have HL0 := Lib.hid hL0
              have HL := Lib.hid hL
              have Hqn := Lib.hid hqn
              have hqn2 : bs.length ≤ qn := by omega
              have hqn3 : qn ≤ 512 := by omega
              have HLa : Hid (∀ a (ha : a < bs.length), L0[a]? = some bs[a]) := fun a ha => by rw [hL, List.getElem?_append_left ha, List.getElem?_eq_getElem ha]
              have hxw10 := hxr.nil Iext
              have hB10 := (hBr.ext Iext (by simp))
              have d2 := hB10.cell (i := 1) rfl
              have hbSo : b ∉ So := fun hk => (Ifr b hk).2.1 rfl
              have hmSo : b + 1 ∉ So := fun hk => (Ifr (b + 1) hk).2.2 rfl
              have HbSo := Lib.hid hbSo
              have HmSo := Lib.hid hmSo
              have HInd := Lib.hid Ind
              have HIfr := Lib.hid Ifr
              clear hL0 hL hqn hbSo hmSo Ind Ifr HI
              go_wp2
              go_loopg [99] bs.length (fun k vi wr => ∃ (a : Nat), vi = .int .i64 (a : Int) ∧ a ≤ bs.length ∧ Hid (a + k = bs.length) ∧ Hid (SlR kBlock 43 wr So (.slice Ao qn co) (mixI (fixB bs.length cr) L0 a)) ∧ Ext So W10 wr)
              case atStart => exact ⟨0, rfl, by omega, by simp [Hid], by rw [mixI_zero]; exact Isl, Ext.refl _ _⟩
              case round =>
                obtain ⟨a, rfl, ha, HK, Hsl, hx11⟩ := hrel
                obtain ⟨q0, hq0⟩ : ∃ x, x = gk := ⟨_, rfl⟩
                subst hq0
                by_cases hlt : a < bs.length
                · have hal : a < L0.length := by have := HL0.out; omega
                  obtain ⟨g0, cap0, Sb, cs, hv, hat⟩ := Hsl.out.at a (by simpa using hal)
                  have hml : (mixI (fixB bs.length cr) L0 a).length = qn := by rw [mixI_len]; exact HL0.out
                  rw [hml] at hv
                  clear hml
                  cases hv
                  have hga : (mixI (fixB bs.length cr) L0 a)[a]'(by simpa using hal) = bs[a] := by rw [mixI_at hal]; exact (List.getElem?_eq_some_iff.1 (HLa.out a hlt)).2
                  have hrep : kBlock.rep wr Sb bs[a] cs := by rw [← hga]; exact hat.rep
                  have Hga := Lib.hid hga
                  have Hxa := Lib.hid (HLa.out a hlt)
                  clear hga
                  obtain ⟨vp, vi, va, vt, Sp, Si, Sa, St, rfl, hr⟩ := hrep
                  obtain ⟨Ap, cp, rfl, _⟩ := hr.p.shape
                  obtain ⟨At, ct, rfl, _⟩ := hr.t.shape
                  have z4 := hat.cell 4 rfl
                  have z0 := hat.cell 0 rfl
                  simp only [kBlock, Nat.add_zero] at z4 z0
                  have hnb := hat.nodup HInd.out
                  have hgn := hat.notin
                  have hmS := hat.mem
                  have hsS := hr.s
                  subst hsS
                  have hD : (∀ k ∈ St, k ∉ Sp ∧ k ∉ Si ∧ k ∉ Sa ∧ k ≠ g0 ∧ k ∈ So) ∧ (∀ k ∈ Sp, k ∉ St ∧ k ∉ Si ∧ k ∉ Sa ∧ k ≠ g0 ∧ k ∈ So) ∧ Sp.Nodup := by
                    obtain ⟨n1, n2, n3⟩ := List.nodup_append.1 hnb
                    obtain ⟨n4, n5, n6⟩ := List.nodup_append.1 n2
                    obtain ⟨n7, n8, n9⟩ := List.nodup_append.1 n5
                    refine ⟨fun k hk => ⟨fun h => n3 k h k (by simp [hk]) rfl, fun h => n6 k h k (by simp [hk]) rfl, fun h => n9 k h k hk rfl, ?_, hmS.2 k (by simp [hk])⟩, fun k hk => ⟨fun h => n3 k hk k (by simp [h]) rfl, fun h => n3 k hk k (by simp [h]) rfl, fun h => n3 k hk k (by simp [h]) rfl, ?_, hmS.2 k (by simp [hk])⟩, n1⟩
                    · rintro rfl; exact hgn (by simp [hk])
                    · rintro rfl; exact hgn (by simp [hk])
                  have Hto := Lib.hid (Hok.out.to bs[a] (List.getElem_mem hlt))
                  have Hph := Lib.hid (Hok.out.phis a hlt)
                  have HD := Lib.hid hD
                  have Hr := Lib.hid hr
                  have Hat := Lib.hid hat
                  have Hx11 := Lib.hid hx11
                  have hBb := Iblk.ext hx11 HbSo.out
                  have hM := Imap.ext hx11 HmSo.out
                  have HM := Lib.hid hM
                  have HmS := Lib.hid hmS
                  have Hgn := Lib.hid hgn
                  have u1 := hBb.cell (i := 1) rfl
                  have haq : a < qn := by omega
                  clear hat hr hD hnb hgn hmS hM Hsl
                  simp only at Hto Hph
                  have htl := (Hok.out.tolen bs[a] (List.getElem_mem hlt)).1
                  have hpl : bs[a].phis.length ≤ 4096 := by
                    have h1 := thingsN_mem (List.getElem_mem hlt)
                    have h2 := Hok.out.things
                    simp only at h2; omega
                  have hpi := Lib.hid ((Hsm.out bs[a] (List.getElem_mem hlt)).2.2.1)
                  generalize bs[a] = x at *
                  obtain ⟨W11, hW11⟩ : ∃ W11, W11 = wr := ⟨_, rfl⟩
                  subst hW11
                  go_wp2
                  go_loopg [112] x.term.to.length (fun k vi wr => ∃ (i : Nat), vi = .int .i64 (i : Int) ∧ i ≤ x.term.to.length ∧ Hid (i + k = x.term.to.length) ∧ Hid (SlR kInt 3 wr St (.slice At x.term.to.length ct) (mixI (fun _ => fixT bs.length cr a) x.term.to i)) ∧ Ext St W11 wr)
                  case atStart => exact ⟨0, rfl, by omega, by simp [Hid], by rw [mixI_zero]; exact Hr.out.t, Ext.refl _ _⟩
                  case round =>
                    obtain ⟨i, rfl, hi, HK2, Hs, hx12⟩ := hrel
                    by_cases hl2 : i < x.term.to.length
                    · obtain ⟨gt, ctt, hv, hS, hc, hfz⟩ := Hs.out.cell i (by simpa using hl2)
                      rw [mixI_len] at hv
                      cases hv
                      have hge : (mixI (fun _ => fixT bs.length cr a) x.term.to i)[i]'(by simpa using hl2) = x.term.to[i] := mixI_at hl2
                      rw [hge] at hc
                      have htb := Hto.out x.term.to[i] (List.getElem_mem hl2)
                      have Hset := Lib.hid (mixI_set (f := fun _ => fixT bs.length cr a) hl2)
                      have Hsame : Hid (fixT bs.length cr a x.term.to[i] = x.term.to[i] → mixI (fun _ => fixT bs.length cr a) x.term.to (i + 1) = mixI (fun _ => fixT bs.length cr a) x.term.to i) := fun h => mixI_same hl2 h
                      clear hge
                      generalize x.term.to[i] = t at *
                      obtain ⟨tn, rfl⟩ : ∃ tn : Nat, t = (tn : Int) := ⟨t.toNat, by omega⟩
                      have hft : fixT bs.length cr a (tn : Int) = match lookC bs.length cr a tn with | some k => (k : Int) | none => (tn : Int) := rfl
                      have hlk := look_two (HM.out.ext hx12 (fun hk => HmSo.out (HD.out.1 _ hk).2.2.2.2)) Hcnd.out (a := a) (t := tn) (by omega) (by omega)
                      have z4' := hx12.cell z4 (fun hk => (HD.out.1 _ hk).2.2.2.1 rfl)
                      cases hcase : lookC bs.length cr a tn with
                      | none =>
                        rw [hcase] at hlk hft
                        simp only [Option.getD_none, Option.isSome_none] at hlk
                        have Hft := Lib.hid hft
                        clear hft hcase
                        go_wp2
                        go_roundg (gk - 1)
                        case measure => have := HK2.out; omega
                        case rel => exact ⟨i + 1, by go_num, by omega, by have := HK2.out; simp only [Hid]; omega, by rw [Hsame.out Hft.out]; exact Hs, hx12⟩
                      | some kk =>
                        rw [hcase] at hlk hft
                        simp only [Option.getD_some, Option.isSome_some] at hlk
                        have Hft := Lib.hid hft
                        clear hft hcase
                        go_wp2
                        go_roundg (gk - 1)
                        case measure => have := HK2.out; omega
                        case rel =>
                          refine ⟨i + 1, by go_num, by omega, by have := HK2.out; simp only [Hid]; omega, ?_, hx12.setCell (.inl (by rw [hS]; simp)) _⟩
                          have hst := Hs.out.set i (by simpa using hl2) (kk : Int)
                          have h5 := Hset.out
                          rw [Hft.out] at h5
                          rw [← h5]
                          exact hst
                    · have hie : i = x.term.to.length := by omega
                      subst hie
                      obtain ⟨W12, hW12⟩ : ∃ W12, W12 = wr := ⟨_, rfl⟩
                      subst hW12
                      have z0' := hx12.cell z0 (fun hk => (HD.out.1 _ hk).2.2.2.1 rfl)
                      have HT : Hid (SlR kInt 3 W12 St (.slice At x.term.to.length ct) (x.term.to.map (fixT bs.length cr a))) := by
                        have := Hs.out; rw [mixI_map] at this; exact this
                      have Hp12 := Lib.hid (Hr.out.p.ext hx12 (fun k hk hk2 => (HD.out.1 k hk2).1 hk))
                      clear Hs
                      go_wp2
                      go_loopg [140] x.phis.length (fun k vi wr => ∃ (j : Nat), vi = .int .i64 (j : Int) ∧ j ≤ x.phis.length ∧ Hid (j + k = x.phis.length) ∧ Hid (SlR kPhi 46 wr Sp (.slice Ap x.phis.length cp) (mixI (fun _ => fixP bs.length cr a) x.phis j)) ∧ Ext Sp W12 wr)
                      case atStart => exact ⟨0, rfl, by omega, by simp [Hid], by rw [mixI_zero]; exact Hp12, Ext.refl _ _⟩
                      case round =>
                        obtain ⟨j, rfl, hj, HK3, Hs3, hx13⟩ := hrel
                        obtain ⟨q1, hq1⟩ : ∃ x, x = gk := ⟨_, rfl⟩
                        subst hq1
                        clear Hp12
                        by_cases hl3 : j < x.phis.length
                        · obtain ⟨gp, capp, Sj, cs, hv, hat2⟩ := Hs3.out.at j (by simpa using hl3)
                          rw [mixI_len] at hv
                          cases hv
                          have hgj : (mixI (fun _ => fixP bs.length cr a) x.phis j)[j]'(by simpa using hl3) = x.phis[j] := mixI_at hl3
                          have hrep : kPhi.rep wr Sj x.phis[j] cs := by rw [← hgj]; exact hat2.rep
                          obtain ⟨vj, rfl, hvj⟩ := hrep
                          obtain ⟨Aj, cj, rfl, _⟩ := hvj.shape
                          have y0 := hat2.cell 0 rfl
                          have y1 := hat2.cell 1 rfl
                          simp only [kPhi, Nat.add_zero] at y0 y1
                          have Hfix := Lib.hid (fix_srcs hlt (Hph.out x.phis[j] (List.getElem_mem hl3)) bs.length rfl cr a)
                          have Hsrc := Lib.hid (Hph.out x.phis[j] (List.getElem_mem hl3))
                          have Hset := Lib.hid (mixI_set (f := fun _ => fixP bs.length cr a) hl3)
                          have hil := hpi.out x.phis[j] (List.getElem_mem hl3)
                          have Hndj := Lib.hid (hat2.nodup HD.out.2.2)
                          have hgpj := hat2.notin
                          have hmSp := hat2.mem
                          have HgpSp := Lib.hid hmSp
                          have Hgpj := Lib.hid hgpj
                          have hltp := hat2.lt
                          have Hltj := Lib.hid hvj.lt
                          have Hat2 := Lib.hid hat2
                          clear hat2 hgj hgpj hmSp Hs3
                          generalize x.phis[j] = p at *
                          obtain ⟨W13, hW13⟩ : ∃ W13, W13 = wr.alloc (.cells #[.int .i64 p.dst, .slice Aj p.ins.length cj] 46) := ⟨_, rfl⟩
                          obtain ⟨gq, hgq⟩ : ∃ gq, gq = wr.heap.size := ⟨_, rfl⟩
                          have hxq : Ext [] wr W13 := by rw [hW13]; exact (Ext.refl _ _).alloc _
                          have hbq : Blk W13 gq 46 #[.int .i64 p.dst, .slice Aj p.ins.length cj] := by rw [hW13, hgq]; exact Blk.new _ _ _
                          have hgqj : gq ∉ Sj := fun hk => by have := Hltj.out gq hk; omega
                          have t1 := hbq.cell (i := 1) rfl
                          have Hgq := Lib.hid hgq
                          have Hgqj := Lib.hid hgqj
                          have Hvj := Lib.hid (hvj.ext0 hxq)
                          clear hvj hgqj
                          go_wp2
                          rw [← hW13, ← hgq]
                          clear hW13 hgq y0 y1
                          go_wp2
                          go_loopg [147] p.ins.length (fun k vi wr => ∃ (i : Nat), vi = .int .i64 (i : Int) ∧ i ≤ p.ins.length ∧ Hid (i + k = p.ins.length) ∧ Hid (SlR kIn 49 wr Sj (.slice Aj p.ins.length cj) (mixI (fun _ => fixIn bs.length cr a) p.ins i)) ∧ Ext Sj W13 wr)
                          case atStart => exact ⟨0, rfl, by omega, by simp [Hid], by rw [mixI_zero]; exact Hvj, Ext.refl _ _⟩
                          case round =>
                            obtain ⟨i, rfl, hi, HK4, Hs4, hx14⟩ := hrel
                            clear Hvj
                            by_cases hl4 : i < p.ins.length
                            · obtain ⟨gi, capi, Se, cse, hv, hat3⟩ := Hs4.out.at i (by simpa using hl4)
                              rw [mixI_len] at hv
                              cases hv
                              have hge : (mixI (fun _ => fixIn bs.length cr a) p.ins i)[i]'(by simpa using hl4) = p.ins[i] := mixI_at hl4
                              have hrep : kIn.rep wr Se p.ins[i] cse := by rw [← hge]; exact hat3.rep
                              have hm : p.ins[i].src ∈ (prd (ofF bs) a).map Int.ofNat := by rw [← Hsrc.out]; exact List.mem_map.2 ⟨_, List.getElem_mem hl4, rfl⟩
                              obtain ⟨s, hs1, hse⟩ := List.mem_map.1 hm
                              have hsl : s < bs.length := by
                                have := (Ed.lt (ofF_good bs) ((mem_prd (by simpa using hlt)).1 hs1)).1
                                simpa using this
                              have hse2 : p.ins[i].src = (s : Int) := hse.symm
                              have Hset4 := Lib.hid (mixI_set (f := fun _ => fixIn bs.length cr a) hl4)
                              have Hsame4 : Hid (fixIn bs.length cr a p.ins[i] = p.ins[i] → mixI (fun _ => fixIn bs.length cr a) p.ins (i + 1) = mixI (fun _ => fixIn bs.length cr a) p.ins i) := fun h => mixI_same hl4 h
                              obtain ⟨rfl, rfl⟩ := hrep
                              have v0 := hat3.cell 0 rfl
                              simp only [kIn, Nat.add_zero] at v0
                              have fz := hat3.frozen (i * 2)
                              have Hat3 := Lib.hid hat3
                              clear hge hm hs1 hse hat3
                              generalize p.ins[i] = ie at *
                              obtain ⟨es, ev⟩ := ie
                              simp only at hse2 v0
                              subst hse2
                              have hbx := hbq.ext hx14 Hgqj.out
                              have t1 := hbx.cell (i := 1) rfl
                              have hft : fixIn bs.length cr a ⟨(s : Int), ev⟩ = ⟨match lookC bs.length cr s a with | some k => (k : Int) | none => (s : Int), ev⟩ := rfl
                              have hM4 := (((HM.out.ext hx12 (fun hk => HmSo.out (HD.out.1 _ hk).2.2.2.2)).ext hx13 (fun hk => HmSo.out (HD.out.2.1 _ hk).2.2.2.2)).ext hxq (by simp)).ext hx14 (fun hk => HmSo.out (HD.out.2.1 _ (HgpSp.out.2 _ hk)).2.2.2.2)
                              have hlk := look_two hM4 Hcnd.out (a := s) (t := a) (by omega) (by omega)
                              clear hM4
                              cases hcase : lookC bs.length cr s a with
                              | none =>
                                rw [hcase] at hlk hft
                                simp only [Option.getD_none, Option.isSome_none] at hlk
                                have Hft := Lib.hid hft
                                clear hft hcase
                                go_wp2
                                go_roundg (gk - 1)
                                case measure => have := HK4.out; omega
                                case rel => exact ⟨i + 1, by go_num, by omega, by have := HK4.out; simp only [Hid]; omega, by rw [Hsame4.out Hft.out]; exact Hs4, hx14⟩
                              | some kk =>
                                rw [hcase] at hlk hft
                                simp only [Option.getD_some, Option.isSome_some] at hlk
                                have Hft := Lib.hid hft
                                clear hft hcase
                                go_wp2
                                go_roundg (gk - 1)
                                case measure => have := HK4.out; omega
                                case rel =>
                                  refine ⟨i + 1, by go_num, by omega, by have := HK4.out; simp only [Hid]; omega, ?_, hx14.setCell (.inl Hat3.out.mem.1) _⟩
                                  have hst := Hat3.out.putS Hndj.out (x' := ⟨(kk : Int), ev⟩) 0 (by decide) (.int .i64 (kk : Int)) ⟨rfl, rfl⟩
                                  have h5 := Hset4.out
                                  rw [Hft.out] at h5
                                  simp only [kIn, Nat.add_zero, mixI_len] at hst
                                  rw [← h5]
                                  exact hst
                            · have hie : i = p.ins.length := by omega
                              subst hie
                              have hbx := hbq.ext hx14 Hgqj.out
                              have t1 := hbx.cell (i := 1) rfl
                              have h4 := Hs4.out
                              rw [mixI_map] at h4
                              have Hsl4 := Lib.hid h4
                              clear h4 Hs4
                              go_wp2_with fail
                              refine (sortIn_calls Hsl4.out (by rw [List.length_map]; exact hil) Hfix.out.1 (fun y hy => by have := Hfix.out.2 y hy; omega)).mono ?_
                              rintro e w5 ⟨rfl, h5, hx5⟩
                              go_wp2
                              go_roundg (q1 - 1)
                              case measure => have := HK3.out; omega
                              case rel =>
                                have hsub := HgpSp.out.2
                                refine ⟨j + 1, by go_num, by omega, by have := HK3.out; simp only [Hid]; omega, ?_, ((hx13.nil hxq).trans hx14 (fun k hk => .inl (hsub k hk))).trans hx5 (fun k hk => .inl (hsub k hk))⟩
                                have hsame := Hat2.out.same HD.out.2.2 (x' := fixP bs.length cr a p) (w1 := w5) (fun k hk h2 => ((hx5.block k (Nat.lt_of_lt_of_le (Nat.lt_of_lt_of_le (Hat2.out.slr.lt k hk) hxq.size) hx14.size) h2).trans (hx14.block k (Nat.lt_of_lt_of_le (Hat2.out.slr.lt k hk) hxq.size) h2)).trans (hxq.block k (Hat2.out.slr.lt k hk) (by simp))) ⟨_, rfl, h5⟩
                                rw [mixI_len] at hsame
                                rw [← Hset.out]
                                exact hsame
                        · have hje : j = x.phis.length := by omega
                          subst hje
                          go_wp2
                          go_roundg (q0 - 1)
                          case measure => have := HK.out; omega
                          case rel =>
                            refine ⟨a + 1, by go_num, by omega, by have := HK.out; simp only [Hid]; omega, ?_, ?_⟩
                            · have h1 := Hs3.out
                              rw [mixI_map] at h1
                              have hxt : ∀ k ∈ St, k ∉ Sp := fun k hk => (HD.out.1 k hk).1
                              have hrow : ∀ k, k < W11.heap.size → k ∉ St → k ∉ Sp → wr.heap[k]? = W11.heap[k]? := fun k hk h2 h3 =>
                                (hx13.block k (Nat.lt_of_lt_of_le hk hx12.size) h3).trans (hx12.block k hk h2)
                              have hnew : BlkCells wr (Sp ++ (Si ++ (Sa ++ St))) (fixB bs.length cr a x) (.slice Ap x.phis.length cp) vi (va) (.slice At x.term.to.length ct) Sp Si Sa St :=
                                ⟨h1, Hr.out.i.move fun k hk => hrow k (Hr.out.i.lt k hk) (fun h => (HD.out.1 k h).2.1 hk) (fun h => (HD.out.2.1 k h).2.1 hk),
                                  Hr.out.a.move fun k hk => hrow k (Hr.out.a.lt k hk) (fun h => (HD.out.1 k h).2.2.1 hk) (fun h => (HD.out.2.1 k h).2.2.1 hk), HT.out.ext hx13 hxt, rfl⟩
                              have hsame := Hat.out.same HInd.out (x' := fixB bs.length cr a x) (w1 := wr) (fun k hk h2 => hrow k (Hat.out.slr.lt k hk) (fun h => h2 (by simp [h])) (fun h => h2 (by simp [h]))) ⟨_, _, _, _, Sp, Si, Sa, St, rfl, hnew⟩
                              rw [mixI_len, HL0.out] at hsame
                              have hset := mixI_set (f := fixB bs.length cr) hal
                              have hx : L0[a] = x := (List.getElem?_eq_some_iff.1 (Hxa.out)).2
                              rw [hx] at hset
                              rw [← hset]
                              exact hsame
                            · exact (Hx11.out.trans hx12 (fun k hk => .inl (HD.out.1 k hk).2.2.2.2)).trans hx13 (fun k hk => .inl (HD.out.2.1 k hk).2.2.2.2)
                · have hae : a = bs.length := by omega
                  subst hae
                  have hbf := Iblk.ext hx11 HbSo.out
                  have hpf := (hPr.ext Iext (by simp)).ext hx11 (fun hk => by
                    have h1 := (HIfr.out _ hk).1
                    have h2 := hPr.lt
                    omega)
                  have u0 := hbf.cell (i := 0) rfl
                  have u1 := hbf.cell (i := 1) rfl
                  have p0 := hpf.cell (i := 0) rfl
                  have p1 := hpf.cell (i := 1) rfl
                  have g0 := hpf.frozen 0
                  have g1 := hpf.frozen 1
                  have hfin := Hsl.out
                  rw [HL.out] at hfin
                  rw [mixI_left] at hfin
                  have Hfin := Lib.hid hfin
                  clear hfin Hsl
                  go_wp2
                  refine bodyPost_ret (v := .tuple #[.agg #[.int .i64 params, .slice Ao qn co], .int .i64 0]) (by simp [results, Try.results10, go_sem, p0, p1]) rfl ?_
                  have e : splitR ⟨params, bs⟩ (runC (funcC ⟨params, bs⟩ idom)) = (splitF ⟨params, bs⟩, 0) := by rw [HR.out, splitR, Htb.out]; rfl
                  have hsz4 := hPr.lt
                  refine ⟨idom, _, So, Hid0.out, by rw [e], ?_, ⟨?_, fun k hk => by have := (HIfr.out k hk).1; omega, HInd.out⟩⟩
                  · rw [e]
                    refine ⟨_, rfl, ?_⟩
                    have hs2 : (splitF ⟨params, bs⟩).blocks = bs.mapIdx (fixB bs.length cr) ++ cr.map fun e => jumpB e.2 := by
                      simp only [splitF, splitBs, Hge.out, Hcr.out]
                    rw [hs2]
                    refine Hfin.out.move fun k hk => ?_
                    have h1 := (HIfr.out k hk).1
                    rw [Below.heap_setCell _ ⟨w.heap.size + 1, 1, none⟩ _ k (by simp; omega), Below.heap_setCell _ ⟨w.heap.size + 1, 0, none⟩ _ k (by simp; omega)]
                  · have e1 : Ext [] w wr := hxw10.trans hx11 (fun k hk => .inr (by have := (HIfr.out k hk).1; omega))
                    exact (e1.setCell (.inr (by simp)) _).setCell (.inr (by simp)) _
end Go.Proofs.Ytkmgbejhbkbaoaa
